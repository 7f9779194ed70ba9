/- Proved: TrackProves returns true at all arguments, which read afterwards as before. Conditions: none. -/
import Derived.Test.YtbhndfnfohoidaaW38
import Derived.Test.YtbhndfnfohoidaaW28
import Derived.Test.YtbhndfnfohoidaaW24
import Derived.Test.YtbhndfnfohoidaaP8
import Derived.ProofKit
import Derived.OpenShut
import Derived.ShutString
import Derived.ChangeOld
import Derived.Below
namespace Go.Proofs.Ytbhndfnfohoidaa.trackProves
open Go.ChangeShapes Go.WideShapes Go.ChangeAt Go.RowKit Go.Firn
open Go.ChangeMaps (open_string shut_string)

theorem own : ownKnob Try.prog.godebug = none := by kernel_rfl
theorem laidOut : laidOutB Try.prog = true := by kernel_rfl

set_option maxHeartbeats 2000000 in
set_option maxRecDepth 100000 in
theorem walk (a : Option Addr) (n c : Nat) (X Y : Nat → Int) (a2 : Option Addr) (nw c2 : Nat) (U : Nat → Int) (m : Int) (N D : Int) (w : World) (hn : n ≤ 9223372036854775807) (hr : RdM w a n X Y) (hc : n ≤ c) (hnw : nw ≤ 9223372036854775807) (hl : RdI w a2 nw U) :
    Calls Try.prog 7 #[.slice a n c, .slice a2 nw c2, .int .i64 m, .agg #[.int .i64 N, .int .i64 D]] w (RetB true w) := by
  have HL := Lib.hid (fun w1 => Long_any a n c w1 hn)
  have G0 := Lib.hid ((Gr.refl w).alloc (.cells #[.int .i64 N, .int .i64 D] 27))
  have B7 := Lib.hid (show Box2 (w.alloc (.cells #[.int .i64 N, .int .i64 D] 27)) w.heap.size N D from Box2.new rfl)
  by_cases h1 : 60 < n
  · have e1 : decide (60 < n) = true := by simpa using h1
    rw [e1] at HL
    clear e1
    go_enter Try.func7, Try.ntmps7
    go_wp2_with (first
      | (go_at_call 15; refine (HL.out _).mono ?_; rintro e w' ⟨rfl, rfl⟩)
      | (go_at_call 16; refine (Awake_any _).mono ?_; rintro e w6 ⟨rfl, hg11⟩))
    go_ret
    exact ⟨rfl, G0.out.trans hg11⟩
  have e1 : decide (60 < n) = false := by simpa using h1
  rw [e1] at HL
  by_cases h2 : 60 < nw
  · have h2' : (60 : Int) < (nw : Int) := by omega
    go_enter Try.func7, Try.ntmps7
    go_wp2_with (first
      | (go_at_call 15; refine (HL.out _).mono ?_; rintro e w' ⟨rfl, rfl⟩)
      | (go_at_call 16; refine (Awake_any _).mono ?_; rintro e w6 ⟨rfl, hg11⟩))
    go_ret
    exact ⟨rfl, G0.out.trans hg11⟩
  have n60 : n ≤ 1000 := by omega
  have C1 := Lib.hid (fun w1 (g : Gr w w1) => Proves_any a n c X Y a2 nw c2 U m N D w1 n60 (by omega) (hr.gr g) (hl.gr g))
  have C2 := Lib.hid (fun w1 (g : Gr w w1) => refProves_any a n c X Y a2 nw c2 U m N D w1 n60 (by omega) (hr.gr g) (hl.gr g))
  have CV := Lib.hid (fun w1 (g : Gr w w1) => refValid_any a n c X Y w1 n60 (hr.gr g))
  have h2' : ¬ (60 : Int) < (nw : Int) := by omega
  cases hv : vP n X Y with
  | false =>
    have C3 := Lib.hid (fun w1 (g : Gr w w1) => Weights_none a n c X Y w1 n60 (hr.gr g) hv)
    rw [hv] at CV
    generalize pvB n nw X Y U m N D = vb at *
    generalize pvE n nw X Y U m N D = ve at *
    clear e1 hr h1 h2 hc hn hnw hl hv
    go_enter Try.func7, Try.ntmps7
    go_wp2_with (first
      | (go_at_call 15; refine (HL.out _).mono ?_; rintro e w' ⟨rfl, rfl⟩; obtain ⟨x0, x1, _, _⟩ := B7.out)
      | (go_at_call 41; (with_reducible refine (C1.out _ G0.out).mono ?_); rintro e w3 ⟨rfl, g3⟩; have G3 := Lib.hid (G0.out.trans g3); obtain ⟨y0, y1, _, _⟩ := B7.out.gr g3; clear g3)
      | (go_at_call 42; (with_reducible refine (C2.out _ G3.out).mono ?_); rintro e w4 ⟨rfl, g4⟩; have G4 := Lib.hid (G3.out.trans g4); clear g4)
      | (go_at_call 43; (with_reducible refine (C3.out _ G4.out).mono ?_); rintro e w5 ⟨rfl, g5⟩; have G50 := Lib.hid (G4.out.trans g5); clear g5)
      | (go_at_call 29; (with_reducible refine (CV.out _ G50.out).mono ?_); rintro e w6 ⟨rfl, g6⟩; have G5 := Lib.hid (G50.out.trans g6); have S6 := Lib.hid g6; clear g6)
      | (go_at_call 16; refine (Awake_any _).mono ?_; rintro e w6 ⟨rfl, hg11⟩))
    go_ret
    exact ⟨rfl, G5.out.trans hg11⟩
  | true =>
    have V := vP_iff.1 hv
    obtain ⟨q, hq, hp⟩ := bst_some V
    have E := Lib.hid (leE_ok V)
    have C20 := Lib.hid (show ∀ w1, Gr w w1 → Calls Try.prog 20 #[.slice a n c] w1 (RetRE (pN n X Y q) (pE n X Y q) 0 w1) from fun w1 g => by
      have h := refLeast_any a n c X Y w1 n60 hc (hr.gr g)
      have e1 : leN n X Y = pN n X Y q := by unfold leN; rw [hv, hq]; rfl
      have e2 : leD n X Y = pE n X Y q := by unfold leD; rw [hv, hq]; rfl
      rw [e1, e2, E.out] at h
      exact h)
    have C3 := Lib.hid (fun w1 (g : Gr w w1) => Weights_any a n c X Y V q hq w1 (hr.gr g))
    have C4 := Lib.hid (show ∀ w1, Gr w w1 → ∀ bw cw m' W', Good n X (fun j => rs (X j) (Y j) (pA X Y q) (pB X Y q) (pD X Y q)) W' m' → RdI w1 (some ⟨bw, 0, none⟩) n W' →
        Calls Try.prog 42 #[.slice a n c, .slice (some ⟨bw, 0, none⟩) n cw, .int .i64 m', .agg #[.int .i64 (pN n X Y q), .int .i64 (pE n X Y q)]] w1 (fun e w' => e = .returned (.tuple #[.bool true, .int .i64 0]) ∧ Gr w1 w') from fun w1 g bw cw m' W' gd rd => by
      have h := refProves_any a n c X Y (some ⟨bw, 0, none⟩) n cw W' m' (pN n X Y q) (pE n X Y q) w1 n60 n60 (hr.gr g) rd
      obtain ⟨p1, p2⟩ := good_proves V hq gd
      rw [p1, p2] at h
      exact h)
    rw [hv] at CV
    clear e1 hr h1 h2 hc hn hnw hl E hv V hp
    generalize (fun j => rs (X j) (Y j) (pA X Y q) (pB X Y q) (pD X Y q)) = r0 at *
    generalize pvB n nw X Y U m N D = vb at *
    generalize pvE n nw X Y U m N D = ve at *
    generalize pN n X Y q = cN at *
    generalize pE n X Y q = cD at *
    clear hq
    go_enter Try.func7, Try.ntmps7
    go_wp2_with (first
      | (go_at_call 15; refine (HL.out _).mono ?_; rintro e w' ⟨rfl, rfl⟩; obtain ⟨x0, x1, _, _⟩ := B7.out)
      | (go_at_call 41; (with_reducible refine (C1.out _ G0.out).mono ?_); rintro e w3 ⟨rfl, g3⟩; have G3 := Lib.hid (G0.out.trans g3); obtain ⟨y0, y1, _, _⟩ := B7.out.gr g3; clear g3)
      | (go_at_call 42; (with_reducible refine (C2.out _ G3.out).mono ?_); rintro e w4 ⟨rfl, g4⟩; have G4 := Lib.hid (G3.out.trans g4); clear g4)
      | (go_at_call 43; (with_reducible refine (C3.out _ G4.out).mono ?_); rintro e w5 ⟨bw, cw, m', W', rfl, c1, c2, gd, rd, g5⟩; have G50 := Lib.hid (G4.out.trans g5); have GD := Lib.hid gd; have RD := Lib.hid rd; clear g5 gd rd)
      | (go_at_call 29; (with_reducible refine (CV.out _ G50.out).mono ?_); rintro e w6 ⟨rfl, g6⟩; have G5 := Lib.hid (G50.out.trans g6); have S6 := Lib.hid g6; clear g6)
      | (go_at_call 20; (with_reducible refine (C20.out _ G5.out).mono ?_); rintro e w7 ⟨rfl, g7⟩; have g7' := g7.alloc (.cells #[.int .i64 cN, .int .i64 cD] 27); have G7 := Lib.hid (G5.out.trans g7'); have RD7 := Lib.hid ((RD.out.gr S6.out).gr g7'); obtain ⟨z0, z1, _, _⟩ := (show Box2 (w7.alloc (.cells #[.int .i64 cN, .int .i64 cD] 27)) w7.heap.size cN cD from Box2.new rfl); clear g7 g7')
      | (go_at_call 42; (with_reducible refine (C4.out _ G7.out bw cw m' W' GD.out RD7.out).mono ?_); rintro e w8 ⟨rfl, g8⟩; have G8 := Lib.hid (G7.out.trans g8); clear g8)
      | (go_at_call 16; refine (Awake_any _).mono ?_; rintro e w6 ⟨rfl, hg11⟩))
    go_ret
    exact ⟨rfl, G8.out.trans hg11⟩

set_option maxRecDepth 100000 in
theorem lifted (os : Os) (started : os.Started) (H : Type) (enc : TypeId × Value → H) :
    ReturnsInHanded {} Try.checked os 7 .any (Rows.trackProvesSpec.pre6 enc Try.prog Try.f7 Rows.trackProvesRow.domain false) (Rows.trackProvesSpec.post enc Try.prog Try.f7 false true false false) := by
  refine returnsInHanded_of_change (C := Try.checked) own started (by kernel_rfl) Try.func7
    (ChangeSpec.witness6 (enc := enc) (C := Try.checked) false ⟨#[], #[.slice none 0 0, .slice none 0 0, .int .i64 0, .agg #[.int .i64 0, .int .i64 0]], []⟩ 8 (by kernel_rfl) (by kernel_rfl) (by kernel_rfl) (by kernel_rfl)) ?_
  intro W base args ds gs before hval0 hW hcnd _
  have hval : ∀ (j : Nat) t v, Try.f7.params[j]? = some t → args[j]? = some v → Value.okWide Try.prog W .any base t v := hval0
  have hW' := hW
  obtain ⟨p, q, hA0, hV, rfl, hfz, hnd⟩ := hW
  have hA : DataW.TrodAll enc Try.prog W 0 (fun _ => true) true Try.f7.params.toList args.toList ds p := hA0
  rw [Try.params7] at hA hval
  obtain ⟨v0, vs0, d0, ds0, p0, q0, hargs, rfl, rfl, h0, r0⟩ := trodAll_cons hA
  obtain ⟨v1, vs1, d1, ds1, p1, q1, rfl, rfl, rfl, h1, r1⟩ := trodAll_cons r0
  obtain ⟨v2, vs2, d2, ds2, p2, q2, rfl, rfl, rfl, h2, r2⟩ := trodAll_cons r1
  obtain ⟨v3, vs3, d3, ds3, p3, q3, rfl, rfl, rfl, h3, r3⟩ := trodAll_cons r2
  obtain ⟨rfl, rfl, rfl⟩ := trodAll_nil r3
  obtain rfl : args = #[v0, v1, v2, v3] := by cases args; simp_all
  obtain ⟨rfl, rfl⟩ := trodVars_none hV
  obtain ⟨a0, len0, cap0, rfl⟩ := okWide_slice Try.underlying22 (hval 0 22 v0 rfl rfl)
  have wc0 : len0 ≤ cap0 := by
    obtain ⟨fuel, hf⟩ := h0
    exact slice_le Try.underlying22 hf
  have k0 := h0
  have lt0 : ∀ x ∈ p0, x.block < W.heap.size := by obtain ⟨m, hm⟩ := k0; exact DataW.trod_lt m _ _ _ hm
  obtain ⟨x0, y0, wn0, _, wr0⟩ : ∃ f g : Nat → Int, len0 ≤ 9223372036854775807 ∧ (∀ i, i < len0 → (Lit.int .i64 (f i)).wf = true ∧ (Lit.int .i64 (g i)).wf = true) ∧ RdM W a0 len0 f g := by
    obtain ⟨fuel, hf⟩ := h0
    exact RdM.of_trod Try.underlying22 Try.underlying56 (by kernel_rfl) ⟨rfl, rfl⟩ ⟨rfl, rfl⟩ (by kernel_rfl) Try.underlying3 hf
  obtain ⟨a1, len1, cap1, rfl⟩ := okWide_slice Try.underlying23 (hval 1 23 v1 rfl rfl)
  have k1 := h1
  have lt1 : ∀ x ∈ p1, x.block < W.heap.size := by obtain ⟨m, hm⟩ := k1; exact DataW.trod_lt m _ _ _ hm
  obtain ⟨z1, w1⟩ : ∃ zs, IsRow W a1 len1 cap1 zs := by
    obtain ⟨fuel, hf⟩ := h1
    rcases open_ints Try.underlying23 Try.underlying3 (by kernel_rfl) hf with ⟨hcs, _⟩ | ⟨x, l, c, zs, hcs, _, hl, hm, hz, _, hcell, hwz⟩
    · simp [Value.cells] at hcs
      obtain ⟨rfl, rfl, rfl⟩ := hcs
      exact ⟨[], .inl ⟨rfl, rfl, rfl, rfl⟩⟩
    · simp [Value.cells] at hcs
      obtain ⟨rfl, rfl, rfl⟩ := hcs
      exact ⟨zs, .inr ⟨_, rfl, hl, hm, by simpa using hz, hcell, hwz⟩⟩
  obtain ⟨a2, rfl, rfl, rfl, w2⟩ := open_int Try.underlying3 (hval 2 3 v2 rfl rfl) h2
  have k3 := h3
  have lt3 : ∀ x ∈ p3, x.block < W.heap.size := by obtain ⟨m, hm⟩ := k3; exact DataW.trod_lt m _ _ _ hm
  obtain ⟨x3, y3, rfl, wx3, wy3⟩ := open_pair Try.underlying27 (by kernel_rfl) (by kernel_rfl) rfl rfl Try.underlying3 (hval 3 27 v3 rfl rfl) h3
  clear hA0 hval0
  refine (walk a0 len0 cap0 x0 y0 a1 len1 cap1 _ a2 x3 y3 W wn0 wr0 wc0 w1.rd.1 w1.rd.2).mono fun e W' ⟨he, bel⟩ => ?_
  subst he
  exact ⟨_, rfl, _, _, _, [], _, [], hW', trodAll_mk1 (shut_bool Try.underlying4 _), (trodAll_cons_mk (Below.trod laidOut (by kernel_rfl) (of_decide_eq_true (by kernel_rfl)) k0 bel lt0) (trodAll_cons_mk (Below.trod laidOut (by kernel_rfl) (of_decide_eq_true (by kernel_rfl)) k1 bel lt1) (trodAll_cons_mk (shut_int Try.underlying3 w2) (trodAll_cons_mk (Below.trod laidOut (by kernel_rfl) (of_decide_eq_true (by kernel_rfl)) k3 bel lt3) trodAll_mk0)))), rfl, bel.frame _, fun h => by cases h⟩

theorem over : Rows.trackProvesRow.holds Try.pinned (OpenSpec.ofChange Rows.trackProvesSpec) :=
  OpenClaim.holds_of_wide 7 Try.f7 rfl rfl rfl rfl rfl rfl rfl ⟨rfl, rfl, rfl, rfl, rfl⟩ rfl rfl rfl rfl rfl (by kernel_rfl) Try.func7 (by kernel_rfl)
    (of_decide_eq_true (by kernel_rfl)) (by unfold Func.isWrapper; first | (rw [if_pos (by decide +kernel)]; kernel_rfl) | (rw [if_neg (by decide +kernel)]; exact ⟨rfl, rfl⟩))
    (fun os started H enc _ => lifted os started H enc)

/-- The statement. -/
theorem proved : Rows.TrackProvesSaid := over
end Go.Proofs.Ytbhndfnfohoidaa.trackProves
