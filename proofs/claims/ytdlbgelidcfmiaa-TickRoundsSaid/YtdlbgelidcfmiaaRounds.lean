/- Proved: TickRounds returns true at every b and every list of readings, and its arguments read afterwards as before. Conditions: none. -/
import Derived.Test.YtdlbgelidcfmiaaW8
import Derived.Test.YtdlbgelidcfmiaaP3
import Derived.ProofKit
import Derived.OpenShut
import Derived.ShutString
import Derived.ChangeOld
import Derived.Below
namespace Go.Proofs.Ytdlbgelidcfmiaa.tickRounds
open Go.ChangeShapes Go.WideShapes Go.ChangeAt Go.RowKit Go.Firn

theorem own : ownKnob Try.prog.godebug = none := by kernel_rfl
theorem laidOut : laidOutB Try.prog = true := by kernel_rfl

theorem SameInts_t (a a' : Option Addr) (n c c' : Nat) (f g : Nat → Int) (w : World) (hn : n ≤ 9223372036854775807) (hr : RdI w a n f) (hr' : RdI w a' n g) (h : ∀ i, i < n → f i = g i) :
    Calls Try.prog 21 #[.slice a n c, .slice a' n c'] w (fun e w' => e = .returned (.bool true) ∧ ∃ m, w' = w.drewN m) :=
  (SameInts_q a a' n c n c' f g w hn hn hr hr').mono fun _ _ ⟨h1, h2⟩ => ⟨by rw [h1, eqB_true.2 ⟨rfl, h⟩], h2⟩

set_option maxRecDepth 100000 in
set_option maxHeartbeats 1000000 in
theorem walk_ok (b : Int) (a : Option Addr) (n c : Nat) (f : Nat → Int) (w : World) (hn : n ≤ 9223372036854775807) (hr : RdI w a n f) (hv : vR b n f = true) :
    Calls Try.prog 5 #[.int .i64 b, .slice a n c] w (RetB true w) := by
  obtain ⟨b1, b2, n1, n2, hf⟩ := vR_true.1 hv
  have p0 := pw_pos b
  have p1 := pw_le b2
  have hs' := shl_pwk b2
  have Vc := Lib.hid (show vC n (fun k => cst (pw b) f (k + 1)) = true from vC_true.2 ⟨n1, n2, fun i hi => by
    have h1 := cst_bd p0 hf (i + 1) (by omega)
    have h2 : ((i + 1 : Nat) : Int) * pw b ≤ 60 * pw b := Int.mul_le_mul_of_nonneg_right (by omega) (by omega)
    exact ⟨h1.1, by omega⟩, fun i hi => (cst_step p0 hf (by omega)).1⟩)
  have Em := Lib.hid (fun k (hk : k < n) => cst_emod (k := k) p0 hf hk)
  have St := Lib.hid (fun k (hk : k < n) => cst_step (k := k) p0 hf hk)
  have C1 := Lib.hid (cst_one (B := pw b) (hf 0 (by omega)).1)
  have Rd := Lib.hid (show (if vR b n f then cst (pw b) f n / pw b else 0) = dn f n by
    rw [if_pos hv]; have := cst_ediv p0 hf (k := n - 1) (by omega); rw [Nat.sub_add_cancel (by omega)] at this; exact this)
  have Hb := isBits_true.2 ⟨b1, b2⟩
  have e1 := Lib.hid (show errOf b (vR b n f) = 0 by rw [hv]; simp [errOf, Hb])
  have e2 := Lib.hid (show nOf (vR b n f) n = n by rw [hv]; rfl)
  have e3 := Lib.hid (show errOf b (vC n (fun k => cst (pw b) f (k + 1))) = 0 by rw [Vc.out]; simp [errOf, Hb])
  have e4 := Lib.hid (show nOf (isBits b && vC n (fun k => cst (pw b) f (k + 1))) n = n by rw [Vc.out, Hb]; rfl)
  have e5 := Lib.hid (show errC (vC n (fun k => cst (pw b) f (k + 1))) = 0 by rw [Vc.out]; rfl)
  have e6 := Lib.hid (show nOf (vC n (fun k => cst (pw b) f (k + 1))) (n - 1) = n - 1 by rw [Vc.out]; rfl)
  have Hv := Lib.hid hv
  have Hf := Lib.hid hf
  obtain ⟨bb, o, rfl, hc⟩ := hr.at (k := 0) (by omega)
  have Hc := Lib.hid hc
  clear hf hv hc Hb
  have hna : n ≤ 200 := by omega
  go_enter Try.func5, Try.ntmps5
  go_wp2_with (first
    | (go_at_call 14; refine (many_any _ _ _ _ hn).mono ?_; rintro e w' ⟨rfl, rfl⟩)
    | (go_at_call 23; refine (refValidReadings_any b _ n c f _ hn hr).mono ?_; rintro e w' ⟨rfl, rfl⟩; rw [Hv.out])
    | (go_at_call 20; refine (Counts_any b _ n c f _ hn hr).mono ?_; rintro e w1 ⟨a1, c1, rfl, _, _, r1, g⟩; rw [e1.out, e2.out]; rw [e2.out] at r1)
    | (go_at_call 24; refine (ValidCounts_any a1 n c1 _ _ hn r1).mono ?_; rintro e w2 ⟨rfl, k⟩; rw [Vc.out]; replace r1 := r1.gr k; replace g := g.trans k; clear k)
    | (go_at_call 18; refine (Readings_any b a1 n c1 _ _ hn r1).mono ?_; rintro e w3 ⟨a3, c3, rfl, _, _, r3, k⟩; rw [e3.out, e4.out]; rw [e4.out] at r3; replace r1 := r1.gr k; replace g := g.trans k; clear k)
    | (go_at_call 26; refine (Steps_any a1 n c1 _ _ hn r1).mono ?_; rintro e w4 ⟨a4, c4, rfl, _, _, r4, k⟩; rw [e5.out, e6.out]; rw [e6.out] at r4; replace r1 := r1.gr k; replace r3 := r3.gr k; replace g := g.trans k; clear k)
    | (go_at_call 28; refine (Rounds_any b _ n c f _ hn (hr.gr g)).mono ?_; rintro e w5 ⟨rfl, k⟩; rw [Rd.out, e1.out]; replace r1 := r1.gr k; replace r3 := r3.gr k; replace r4 := r4.gr k; replace g := g.trans k; clear k))
  obtain ⟨b1', o1, rfl, hc1⟩ := r1.at (k := 0) (by omega)
  have x1 := hc1 0 (by omega)
  simp only [Nat.zero_add, C1.out, Nat.add_zero] at x1
  have x2 := g.cell (Hc.out 0 (by omega))
  simp only [Nat.add_zero] at x2
  have i0 : (0 : Int) < n := by omega
  have i1 : ((n - 1 : Nat) : Int) = (n : Int) - 1 := by omega
  have i2 : IntKind.i64.wrap ((n : Int) - 1) = (n : Int) - 1 := IntWalk.i64_in _ (by omega)
  clear hc1
  have R := Lib.hid hr
  clear hr
  go_quiet ((go_at_call 21; exact Calls.quiet_of (SameInts_t a3 (some ⟨bb, o, none⟩) n c3 c _ f _ hn (r3.gr ((Gr.refl _).drewN _)) ((R.out.gr g).gr ((Gr.refl _).drewN _)) Em.out)))
  clear x1 x2
  have hg : Gr w (w5.drewN nq) := g.drewN _
  have R4 := Lib.hid (r4.gr ((Gr.refl w5).drewN nq))
  clear r4 r3 r1 g
  have n3 : n - 1 ≤ 9223372036854775807 := by omega
  have D1 := Lib.hid (dn_one f)
  go_wp2_with fail
  generalize hm : n - 1 = m at *
  have Hm := Lib.hid hm
  have hmn : m < n := by omega
  clear hm i1 i2
  go_loopw [12, 13, 14, 89] (fun d _ _ i wr => ∃ k : Nat, k ≤ m ∧ i = .int .i64 k ∧ d = .int .i64 (dn f (k + 1)) ∧ Gr w wr ∧ Gr (w5.drewN nq) wr) (fun _ _ _ i _ => m - (intOf i).toNat)
  case atStart => exact ⟨0, by omega, rfl, by rw [D1.out], hg, Gr.refl _⟩
  case round =>
    obtain ⟨k, hk, rfl, rfl, hg1, hg2⟩ := hrel
    by_cases hlt : k < m
    · obtain ⟨b4, o4, rfl, hc4⟩ := R4.out.at hlt
      have y0 := hg2.cell (hc4 k hlt)
      have s01 : 0 ≤ cst (pw b) f (k + 1 + 1) - cst (pw b) f (k + 1) ∧ cst (pw b) f (k + 1 + 1) - cst (pw b) f (k + 1) < pw b := by
        have := St.out (k + 1) (by omega)
        omega
      generalize cst (pw b) f (k + 1 + 1) - cst (pw b) f (k + 1) = st at *
      obtain ⟨s0, s1⟩ := s01
      have y1 := hg1.cell (Hc.out (k + 1) (by omega))
      have y2 := hg1.cell (Hc.out k (by omega))
      clear hc4 R4
      have i3 : (0 : Int) ≤ (k : Int) := by omega
      have i4 : (k : Int) < n := by omega
      have i5 : (0 : Int) ≤ (k : Int) + 1 := by omega
      have i6 : (k : Int) + 1 < n := by omega
      have i7 : IntKind.i64.wrap ((k : Int) + 1) = (k : Int) + 1 := IntWalk.i64_in _ (by omega)
      have i8 : ((k : Int) + 1).toNat = k + 1 := by omega
      obtain ⟨d0, d1⟩ := dn_bd f (k + 1)
      by_cases ht : f (k + 1) < f k
      · have D := Lib.hid (dn_down ht)
        go_wp2_with fail
        go_quiet (fail)
        go_wp2_with fail
        go_roundw
        case rel => exact ⟨k + 1, by omega, by go_num, by rw [D.out], hg1.drewN _, hg2.drewN _⟩
        case measure => simp [intOf]; omega
      · have D := Lib.hid (dn_up ht)
        go_wp2_with fail
        go_quiet (fail)
        go_wp2_with fail
        go_roundw
        case rel => exact ⟨k + 1, by omega, by go_num, by rw [D.out], hg1.drewN _, hg2.drewN _⟩
        case measure => simp [intOf]; omega
    · have hkm : k = m := by omega
      subst hkm
      have D := Lib.hid (show dn f n = dn f (k + 1) by have := Hm.out; congr 1; omega)
      clear R4
      rw [D.out]
      have hge : (n : Int) - 1 ≤ (k : Int) := by have := Hm.out; omega
      go_wp2_with (go_at_call 17; refine (Awake_any _).mono ?_; rintro e w6 ⟨rfl, hg11⟩)
      go_ret
      exact ⟨rfl, hg1.trans hg11⟩

set_option maxRecDepth 100000 in
theorem walk (b : Int) (a : Option Addr) (n c : Nat) (f : Nat → Int) (w : World) (_wf : (Lit.int .i64 b).wf = true) (hn : n ≤ 9223372036854775807) (hr : RdI w a n f) :
    Calls Try.prog 5 #[.int .i64 b, .slice a n c] w (RetB true w) := by
  by_cases h1 : 200 < n
  · go_enter Try.func5, Try.ntmps5
    go_wp2_with (first
      | (go_at_call 14; refine (many_any _ _ _ _ hn).mono ?_; rintro e w' ⟨rfl, rfl⟩)
      | (go_at_call 17; refine (Awake_any _).mono ?_; rintro e w6 ⟨rfl, hg11⟩))
    go_ret
    exact ⟨rfl, hg11⟩
  cases hv : vR b n f with
  | false =>
    have Hv := Lib.hid hv
    clear hv
    go_enter Try.func5, Try.ntmps5
    go_wp2_with (first
      | (go_at_call 14; refine (many_any _ _ _ _ hn).mono ?_; rintro e w' ⟨rfl, rfl⟩)
      | (go_at_call 23; refine (refValidReadings_any b _ n c f _ hn hr).mono ?_; rintro e w' ⟨rfl, rfl⟩; rw [Hv.out])
      | (go_at_call 17; refine (Awake_any _).mono ?_; rintro e w6 ⟨rfl, hg11⟩))
    go_ret
    exact ⟨rfl, hg11⟩
  | true => exact walk_ok b a n c f w hn hr hv

set_option maxRecDepth 100000 in
theorem lifted (os : Os) (started : os.Started) (H : Type) (enc : TypeId × Value → H) :
    ReturnsInHanded {} Try.checked os 5 .any (Rows.tickRoundsSpec.pre6 enc Try.prog Try.f5 Rows.tickRoundsRow.domain false) (Rows.tickRoundsSpec.post enc Try.prog Try.f5 false true false false) := by
  refine returnsInHanded_of_change (C := Try.checked) own started (by kernel_rfl) Try.func5
    (ChangeSpec.witness6 (enc := enc) (C := Try.checked) false ⟨#[], #[.int .i64 0, .slice none 0 0], []⟩ 8 (by kernel_rfl) (by kernel_rfl) (by kernel_rfl) (by kernel_rfl)) ?_
  intro W base args ds gs before hval0 hW hcnd _
  have hval : ∀ (j : Nat) t v, Try.f5.params[j]? = some t → args[j]? = some v → Value.okWide Try.prog W .any base t v := hval0
  have hW' := hW
  obtain ⟨p, q, hA0, hV, rfl, hfz, hnd⟩ := hW
  have hA : DataW.TrodAll enc Try.prog W 0 (fun _ => true) true Try.f5.params.toList args.toList ds p := hA0
  rw [Try.params5] at hA hval
  obtain ⟨v0, vs0, d0, ds0, p0, q0, hargs, rfl, rfl, h0, r0⟩ := trodAll_cons hA
  obtain ⟨v1, vs1, d1, ds1, p1, q1, rfl, rfl, rfl, h1, r1⟩ := trodAll_cons r0
  obtain ⟨rfl, rfl, rfl⟩ := trodAll_nil r1
  obtain rfl : args = #[v0, v1] := by cases args; simp_all
  obtain ⟨rfl, rfl⟩ := trodVars_none hV
  obtain ⟨a0, rfl, rfl, rfl, w0⟩ := open_int Try.underlying3 (hval 0 3 v0 rfl rfl) h0
  obtain ⟨a1, len1, cap1, rfl⟩ := okWide_slice Try.underlying22 (hval 1 22 v1 rfl rfl)
  have k1 := h1
  have lt1 : ∀ x ∈ p1, x.block < W.heap.size := by obtain ⟨m, hm⟩ := k1; exact DataW.trod_lt m _ _ _ hm
  obtain ⟨z1, w1⟩ : ∃ zs, IsRow W a1 len1 cap1 zs := by
    obtain ⟨fuel, hf⟩ := h1
    rcases open_ints Try.underlying22 Try.underlying3 (by kernel_rfl) hf with ⟨hcs, _⟩ | ⟨x, l, c, zs, hcs, _, hl, hm, hz, _, hcell, hwz⟩
    · simp [Value.cells] at hcs
      obtain ⟨rfl, rfl, rfl⟩ := hcs
      exact ⟨[], .inl ⟨rfl, rfl, rfl, rfl⟩⟩
    · simp [Value.cells] at hcs
      obtain ⟨rfl, rfl, rfl⟩ := hcs
      exact ⟨zs, .inr ⟨_, rfl, hl, hm, by simpa using hz, hcell, hwz⟩⟩
  clear hA0 hval0
  refine (walk a0 a1 len1 cap1 _ W w0 w1.rd.1 w1.rd.2).mono fun e W' ⟨he, bel⟩ => ?_
  subst he
  exact ⟨_, rfl, _, _, _, [], _, [], hW', trodAll_mk1 (shut_bool Try.underlying4 _), (trodAll_cons_mk (shut_int Try.underlying3 w0) (trodAll_cons_mk (Below.trod laidOut (by kernel_rfl) (of_decide_eq_true (by kernel_rfl)) k1 bel lt1) trodAll_mk0)), rfl, bel.frame _, fun h => by cases h⟩

theorem over : Rows.tickRoundsRow.holds Try.pinned (OpenSpec.ofChange Rows.tickRoundsSpec) :=
  OpenClaim.holds_of_wide 5 Try.f5 rfl rfl rfl rfl rfl rfl rfl ⟨rfl, rfl, rfl, rfl, rfl⟩ rfl rfl rfl rfl rfl (by kernel_rfl) Try.func5 (by kernel_rfl)
    (of_decide_eq_true (by kernel_rfl)) (by unfold Func.isWrapper; first | (rw [if_pos (by decide +kernel)]; kernel_rfl) | (rw [if_neg (by decide +kernel)]; exact ⟨rfl, rfl⟩))
    (fun os started H enc _ => lifted os started H enc)

/-- The statement. -/
theorem proved : Rows.TickRoundsSaid := over
end Go.Proofs.Ytdlbgelidcfmiaa.tickRounds
