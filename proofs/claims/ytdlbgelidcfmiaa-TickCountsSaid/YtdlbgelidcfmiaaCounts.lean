/- Proved: TickCounts returns true at every b and all lists, and its arguments read afterwards as before. Conditions: none. -/
import Derived.Test.YtdlbgelidcfmiaaW8
import Derived.ProofKit
import Derived.OpenShut
import Derived.ShutString
import Derived.ChangeOld
import Derived.Below
namespace Go.Proofs.Ytdlbgelidcfmiaa.tickCounts
open Go.ChangeShapes Go.WideShapes Go.ChangeAt Go.RowKit Go.Firn

theorem own : ownKnob Try.prog.godebug = none := by kernel_rfl
theorem laidOut : laidOutB Try.prog = true := by kernel_rfl

theorem eqB_self (n : Nat) (f : Nat → Int) : eqB n n f f = true := eqB_true.2 ⟨rfl, fun _ _ => rfl⟩

set_option maxRecDepth 100000 in
set_option maxHeartbeats 1000000 in
theorem walk (b : Int) (a1 : Option Addr) (n1 c1 : Nat) (f1 : Nat → Int) (a2 : Option Addr) (n2 c2 : Nat) (f2 : Nat → Int) (w : World) (_wf : (Lit.int .i64 b).wf = true)
    (h1 : n1 ≤ 9223372036854775807) (r1 : RdI w a1 n1 f1) (h2 : n2 ≤ 9223372036854775807) (r2 : RdI w a2 n2 f2) :
    Calls Try.prog 4 #[.int .i64 b, .slice a1 n1 c1, .slice a2 n2 c2] w (RetB true w) := by
  by_cases g1 : 200 < n1
  · go_enter Try.func4, Try.ntmps4
    go_wp2_with (first
      | (go_at_call 14; refine (many_any _ _ _ _ h1).mono ?_; rintro e w' ⟨rfl, rfl⟩)
      | (go_at_call 17; refine (Awake_any _).mono ?_; rintro e w6 ⟨rfl, hg11⟩))
    go_ret
    exact ⟨rfl, hg11⟩
  by_cases g2 : 200 < n2
  · go_enter Try.func4, Try.ntmps4
    go_wp2_with fail
    refine (many_any _ _ _ _ h1).mono ?_
    rintro e w' ⟨rfl, rfl⟩
    go_wp2_with fail
    refine (many_any _ _ _ _ h2).mono ?_
    rintro e w' ⟨rfl, rfl⟩
    go_wp2_with (first
      | (go_at_call 17; refine (Awake_any _).mono ?_; rintro e w6 ⟨rfl, hg11⟩))
    go_ret
    exact ⟨rfl, hg11⟩
  have m1 : n1 ≤ 200 := by omega
  have m2 : n2 ≤ 200 := by omega
  generalize hvr : vR b n1 f1 = vr
  generalize hvc : vC n2 f2 = vc
  generalize her : errOf b vr = er
  generalize hec : errOf b vc = ec
  generalize hes : errC vc = es
  generalize hx1 : nOf vr n1 = x1
  generalize hx2 : nOf (isBits b && vc) n2 = x2
  generalize hx3 : nOf vc (n2 - 1) = x3
  generalize hrd : (if vr then cst (pw b) f1 n1 / pw b else 0) = rd
  have Q1 := Lib.hid hvr
  have Q2 := Lib.hid hvc
  have Q3 := Lib.hid her
  have Q4 := Lib.hid hec
  have Q5 := Lib.hid hes
  have Q6 := Lib.hid hx1
  have Q7 := Lib.hid hx2
  have Q8 := Lib.hid hx3
  have Q9 := Lib.hid hrd
  have l1 : x1 ≤ 9223372036854775807 := by rw [← hx1]; unfold nOf; split <;> omega
  have l2 : x2 ≤ 9223372036854775807 := by rw [← hx2]; unfold nOf; split <;> omega
  have l3 : x3 ≤ 9223372036854775807 := by rw [← hx3]; unfold nOf; split <;> omega
  clear hvr hvc her hec hes hx1 hx2 hx3 hrd
  go_enter Try.func4, Try.ntmps4
  go_wp2_with fail
  refine (many_any _ _ _ _ h1).mono ?_
  rintro e w' ⟨rfl, rfl⟩
  go_wp2_with fail
  refine (many_any _ _ _ _ h2).mono ?_
  rintro e w' ⟨rfl, rfl⟩
  go_wp2_with fail
  refine (Counts_any b a1 n1 c1 f1 _ h1 r1).mono ?_
  rintro e y1 ⟨s1, t1, rfl, _, _, d1, g⟩
  rw [Q1.out, Q3.out, Q6.out]
  rw [Q1.out, Q6.out] at d1
  go_wp2_with fail
  refine (refCounts_any b a1 n1 c1 f1 _ h1 (r1.gr g)).mono ?_
  rintro e y2 ⟨s2, t2, rfl, _, _, d2, k⟩
  rw [Q1.out, Q3.out, Q6.out]
  rw [Q1.out, Q6.out] at d2
  replace d1 := d1.gr k
  replace g := g.trans k
  clear k
  go_wp2_with fail
  refine (ValidReadings_any b a1 n1 c1 f1 _ h1 (r1.gr g)).mono ?_
  rintro e y3 ⟨rfl, k⟩
  rw [Q1.out]
  replace d1 := d1.gr k
  replace d2 := d2.gr k
  replace g := g.trans k
  clear k
  go_wp2_with fail
  refine (refValidReadings_any b a1 n1 c1 f1 _ h1 (r1.gr g)).mono ?_
  rintro e y4 ⟨rfl, rfl⟩
  rw [Q1.out]
  go_wp2_with fail
  refine (ValidCounts_any a2 n2 c2 f2 _ h2 (r2.gr g)).mono ?_
  rintro e y5 ⟨rfl, k⟩
  rw [Q2.out]
  replace d1 := d1.gr k
  replace d2 := d2.gr k
  replace g := g.trans k
  clear k
  go_wp2_with fail
  refine (refValidCounts_any a2 n2 c2 f2 _ h2 (r2.gr g)).mono ?_
  rintro e y6 ⟨rfl, rfl⟩
  rw [Q2.out]
  go_wp2_with fail
  refine (SameInts_any s1 s2 x1 t1 x1 t2 _ _ _ l1 l1 d1 d2).mono ?_
  rintro e y7 ⟨rfl, k⟩
  rw [eqB_self]
  replace g := g.trans k
  clear k d1 d2
  go_wp2_with fail
  refine (Readings_any b a2 n2 c2 f2 _ h2 (r2.gr g)).mono ?_
  rintro e y8 ⟨s3, t3, rfl, _, _, d1, k⟩
  rw [Q2.out, Q4.out, Q7.out]
  rw [Q2.out, Q7.out] at d1
  replace g := g.trans k
  clear k
  go_wp2_with fail
  refine (refReadings_any b a2 n2 c2 f2 _ h2 (r2.gr g)).mono ?_
  rintro e y9 ⟨s4, t4, rfl, _, _, d2, k⟩
  rw [Q2.out, Q4.out, Q7.out]
  rw [Q2.out, Q7.out] at d2
  replace d1 := d1.gr k
  replace g := g.trans k
  clear k
  go_wp2_with fail
  refine (SameInts_any s3 s4 x2 t3 x2 t4 _ _ _ l2 l2 d1 d2).mono ?_
  rintro e z1 ⟨rfl, k⟩
  rw [eqB_self]
  replace g := g.trans k
  clear k d1 d2
  go_wp2_with fail
  refine (Steps_any a2 n2 c2 f2 _ h2 (r2.gr g)).mono ?_
  rintro e z2 ⟨s5, t5, rfl, _, _, d1, k⟩
  rw [Q2.out, Q5.out, Q8.out]
  rw [Q2.out, Q8.out] at d1
  replace g := g.trans k
  clear k
  go_wp2_with fail
  refine (refSteps_any a2 n2 c2 f2 _ h2 (r2.gr g)).mono ?_
  rintro e z3 ⟨s6, t6, rfl, _, _, d2, k⟩
  rw [Q2.out, Q5.out, Q8.out]
  rw [Q2.out, Q8.out] at d2
  replace d1 := d1.gr k
  replace g := g.trans k
  clear k
  go_wp2_with fail
  refine (Rounds_any b a1 n1 c1 f1 _ h1 (r1.gr g)).mono ?_
  rintro e z4 ⟨rfl, k⟩
  rw [Q1.out, Q9.out, Q3.out]
  replace d1 := d1.gr k
  replace d2 := d2.gr k
  replace g := g.trans k
  clear k
  go_wp2_with fail
  refine (refRounds_any b a1 n1 c1 f1 _ h1 (r1.gr g)).mono ?_
  rintro e z5 ⟨rfl, k⟩
  rw [Q1.out, Q9.out, Q3.out]
  replace d1 := d1.gr k
  replace d2 := d2.gr k
  replace g := g.trans k
  clear k
  go_wp2_with fail
  refine (SameInts_any s5 s6 x3 t5 x3 t6 _ _ _ l3 l3 d1 d2).mono ?_
  rintro e z6 ⟨rfl, k⟩
  rw [eqB_self]
  replace g := g.trans k
  clear k d1 d2
  go_wp2_with fail
  refine (Awake_any _).mono ?_
  rintro e z7 ⟨rfl, k⟩
  replace g := g.trans k
  clear k
  go_wp2_with fail
  go_ret
  exact ⟨rfl, g⟩

set_option maxRecDepth 100000 in
theorem lifted (os : Os) (started : os.Started) (H : Type) (enc : TypeId × Value → H) :
    ReturnsInHanded {} Try.checked os 4 .any (Rows.tickCountsSpec.pre6 enc Try.prog Try.f4 Rows.tickCountsRow.domain false) (Rows.tickCountsSpec.post enc Try.prog Try.f4 false true false false) := by
  refine returnsInHanded_of_change (C := Try.checked) own started (by kernel_rfl) Try.func4
    (ChangeSpec.witness6 (enc := enc) (C := Try.checked) false ⟨#[], #[.int .i64 0, .slice none 0 0, .slice none 0 0], []⟩ 8 (by kernel_rfl) (by kernel_rfl) (by kernel_rfl) (by kernel_rfl)) ?_
  intro W base args ds gs before hval0 hW hcnd _
  have hval : ∀ (j : Nat) t v, Try.f4.params[j]? = some t → args[j]? = some v → Value.okWide Try.prog W .any base t v := hval0
  have hW' := hW
  obtain ⟨p, q, hA0, hV, rfl, hfz, hnd⟩ := hW
  have hA : DataW.TrodAll enc Try.prog W 0 (fun _ => true) true Try.f4.params.toList args.toList ds p := hA0
  rw [Try.params4] at hA hval
  obtain ⟨v0, vs0, d0, ds0, p0, q0, hargs, rfl, rfl, h0, r0⟩ := trodAll_cons hA
  obtain ⟨v1, vs1, d1, ds1, p1, q1, rfl, rfl, rfl, h1, r1⟩ := trodAll_cons r0
  obtain ⟨v2, vs2, d2, ds2, p2, q2, rfl, rfl, rfl, h2, r2⟩ := trodAll_cons r1
  obtain ⟨rfl, rfl, rfl⟩ := trodAll_nil r2
  obtain rfl : args = #[v0, v1, v2] := by cases args; simp_all
  obtain ⟨rfl, rfl⟩ := trodVars_none hV
  obtain ⟨a0, rfl, rfl, rfl, w0⟩ := open_int Try.underlying3 (hval 0 3 v0 rfl rfl) h0
  obtain ⟨a1, len1, cap1, rfl⟩ := okWide_slice Try.underlying22 (hval 1 22 v1 rfl rfl)
  have k1 := h1
  have lt1 : ∀ x ∈ p1, x.block < W.heap.size := by obtain ⟨m, hm⟩ := k1; exact DataW.trod_lt m _ _ _ hm
  obtain ⟨z1, w1⟩ : ∃ zs, IsRow W a1 len1 cap1 zs := by
    obtain ⟨fuel, hf⟩ := h1
    rcases open_ints Try.underlying22 Try.underlying3 (by kernel_rfl) hf with ⟨hcs, _⟩ | ⟨x, l, c, zs, hcs, _, hl, hm, hz, _, hcell, hwz⟩
    · simp [Value.cells] at hcs
      obtain ⟨rfl, rfl, rfl⟩ := hcs
      exact ⟨[], .inl ⟨rfl, rfl, rfl, rfl⟩⟩
    · simp [Value.cells] at hcs
      obtain ⟨rfl, rfl, rfl⟩ := hcs
      exact ⟨zs, .inr ⟨_, rfl, hl, hm, by simpa using hz, hcell, hwz⟩⟩
  obtain ⟨a2, len2, cap2, rfl⟩ := okWide_slice Try.underlying22 (hval 2 22 v2 rfl rfl)
  have k2 := h2
  have lt2 : ∀ x ∈ p2, x.block < W.heap.size := by obtain ⟨m, hm⟩ := k2; exact DataW.trod_lt m _ _ _ hm
  obtain ⟨z2, w2⟩ : ∃ zs, IsRow W a2 len2 cap2 zs := by
    obtain ⟨fuel, hf⟩ := h2
    rcases open_ints Try.underlying22 Try.underlying3 (by kernel_rfl) hf with ⟨hcs, _⟩ | ⟨x, l, c, zs, hcs, _, hl, hm, hz, _, hcell, hwz⟩
    · simp [Value.cells] at hcs
      obtain ⟨rfl, rfl, rfl⟩ := hcs
      exact ⟨[], .inl ⟨rfl, rfl, rfl, rfl⟩⟩
    · simp [Value.cells] at hcs
      obtain ⟨rfl, rfl, rfl⟩ := hcs
      exact ⟨zs, .inr ⟨_, rfl, hl, hm, by simpa using hz, hcell, hwz⟩⟩
  clear hA0 hval0
  refine (walk a0 a1 len1 cap1 _ a2 len2 cap2 _ W w0 w1.rd.1 w1.rd.2 w2.rd.1 w2.rd.2).mono fun e W' ⟨he, bel⟩ => ?_
  subst he
  exact ⟨_, rfl, _, _, _, [], _, [], hW', trodAll_mk1 (shut_bool Try.underlying4 _), (trodAll_cons_mk (shut_int Try.underlying3 w0) (trodAll_cons_mk (Below.trod laidOut (by kernel_rfl) (of_decide_eq_true (by kernel_rfl)) k1 bel lt1) (trodAll_cons_mk (Below.trod laidOut (by kernel_rfl) (of_decide_eq_true (by kernel_rfl)) k2 bel lt2) trodAll_mk0))), rfl, bel.frame _, fun h => by cases h⟩

theorem over : Rows.tickCountsRow.holds Try.pinned (OpenSpec.ofChange Rows.tickCountsSpec) :=
  OpenClaim.holds_of_wide 4 Try.f4 rfl rfl rfl rfl rfl rfl rfl ⟨rfl, rfl, rfl, rfl, rfl⟩ rfl rfl rfl rfl rfl (by kernel_rfl) Try.func4 (by kernel_rfl)
    (of_decide_eq_true (by kernel_rfl)) (by unfold Func.isWrapper; first | (rw [if_pos (by decide +kernel)]; kernel_rfl) | (rw [if_neg (by decide +kernel)]; exact ⟨rfl, rfl⟩))
    (fun os started H enc _ => lifted os started H enc)

/-- The statement. -/
theorem proved : Rows.TickCountsSaid := over
end Go.Proofs.Ytdlbgelidcfmiaa.tickCounts
