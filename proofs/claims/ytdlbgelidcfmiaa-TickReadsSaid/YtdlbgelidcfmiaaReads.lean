/- Proved: TickReads returns true at every b and every list of counts, and its arguments read afterwards as before. Conditions: none. -/
import Derived.Test.YtdlbgelidcfmiaaW9
import Derived.ProofKit
import Derived.OpenShut
import Derived.ShutString
import Derived.ChangeOld
import Derived.Below
namespace Go.Proofs.Ytdlbgelidcfmiaa.tickReads
open Go.ChangeShapes Go.WideShapes Go.ChangeAt Go.RowKit Go.Firn
open Go.ChangeMaps (open_string shut_string)

theorem own : ownKnob Try.prog.godebug = none := by kernel_rfl
theorem laidOut : laidOutB Try.prog = true := by kernel_rfl

set_option maxRecDepth 100000 in
theorem walk (b : Int) (a : Option Addr) (n c : Nat) (f : Nat → Int) (w : World) (hn : n ≤ 9223372036854775807) (hr : RdI w a n f) :
    Calls Try.prog 3 #[.int .i64 b, .slice a n c] w (RetB true w) := by
  by_cases h1 : 200 < n
  · go_enter Try.func3, Try.ntmps3
    go_wp2_with (first
      | (go_at_call 14; refine (many_any _ _ _ _ hn).mono ?_; rintro e w' ⟨rfl, rfl⟩)
      | (go_at_call 17; refine (Awake_any _).mono ?_; rintro e w6 ⟨rfl, hg11⟩))
    go_ret
    exact ⟨rfl, hg11⟩
  cases hv : vC n f with
  | false =>
    have Hv := Lib.hid hv
    clear hv
    go_enter Try.func3, Try.ntmps3
    go_wp2_with (first
      | (go_at_call 14; refine (many_any _ _ _ _ hn).mono ?_; rintro e w' ⟨rfl, rfl⟩)
      | (go_at_call 15; refine (refValidCounts_any _ n c f _ hn hr).mono ?_; rintro e w' ⟨rfl, rfl⟩; rw [Hv.out])
      | (go_at_call 17; refine (Awake_any _).mono ?_; rintro e w6 ⟨rfl, hg11⟩))
    go_ret
    exact ⟨rfl, hg11⟩
  | true =>
    cases hb : isBits b with
    | true => exact TickReads_ok b a n c f w hn hr hb hv
    | false =>
      have Hv := Lib.hid hv
      have Hb := Lib.hid hb
      clear hv hb
      go_enter Try.func3, Try.ntmps3
      go_wp2_with (first
        | (go_at_call 14; refine (many_any _ _ _ _ hn).mono ?_; rintro e w' ⟨rfl, rfl⟩)
        | (go_at_call 15; refine (refValidCounts_any _ n c f _ hn hr).mono ?_; rintro e w' ⟨rfl, rfl⟩; rw [Hv.out])
        | (go_at_call 16; refine (IsBits_any _ _).mono ?_; rintro e w' ⟨rfl, rfl⟩; rw [Hb.out])
        | (go_at_call 17; refine (Awake_any _).mono ?_; rintro e w6 ⟨rfl, hg11⟩))
      go_ret
      exact ⟨rfl, hg11⟩

set_option maxRecDepth 100000 in
theorem lifted (os : Os) (started : os.Started) (H : Type) (enc : TypeId × Value → H) :
    ReturnsInHanded {} Try.checked os 3 .any (Rows.tickReadsSpec.pre6 enc Try.prog Try.f3 Rows.tickReadsRow.domain false) (Rows.tickReadsSpec.post enc Try.prog Try.f3 false true false false) := by
  refine returnsInHanded_of_change (C := Try.checked) own started (by kernel_rfl) Try.func3
    (ChangeSpec.witness6 (enc := enc) (C := Try.checked) false ⟨#[], #[.int .i64 0, .slice none 0 0], []⟩ 8 (by kernel_rfl) (by kernel_rfl) (by kernel_rfl) (by kernel_rfl)) ?_
  intro W base args ds gs before hval0 hW hcnd _
  have hval : ∀ (j : Nat) t v, Try.f3.params[j]? = some t → args[j]? = some v → Value.okWide Try.prog W .any base t v := hval0
  have hW' := hW
  obtain ⟨p, q, hA0, hV, rfl, hfz, hnd⟩ := hW
  have hA : DataW.TrodAll enc Try.prog W 0 (fun _ => true) true Try.f3.params.toList args.toList ds p := hA0
  rw [Try.params3] at hA hval
  obtain ⟨v0, vs0, d0, ds0, p0, q0, hargs, rfl, rfl, h0, r0⟩ := trodAll_cons hA
  obtain ⟨v1, vs1, d1, ds1, p1, q1, rfl, rfl, rfl, h1, r1⟩ := trodAll_cons r0
  obtain ⟨rfl, rfl, rfl⟩ := trodAll_nil r1
  obtain rfl : args = #[v0, v1] := by cases args; simp_all
  obtain ⟨rfl, rfl⟩ := trodVars_none hV
  obtain ⟨a0, rfl, rfl, rfl, w0⟩ := open_int Try.underlying3 (hval 0 3 v0 rfl rfl) h0
  obtain ⟨a1, len1, cap1, rfl⟩ := okWide_slice Try.underlying22 (hval 1 22 v1 rfl rfl)
  have k1 := h1
  have lt1 : ∀ x ∈ p1, x.block < W.heap.size := by obtain ⟨m, hm⟩ := k1; exact DataW.trod_lt m _ _ _ hm
  obtain ⟨z1, w1⟩ : ∃ zs, IsRow W a1 len1 cap1 zs := by
    obtain ⟨fuel, hf⟩ := h1
    rcases open_ints Try.underlying22 Try.underlying3 (by kernel_rfl) hf with ⟨hcs, _⟩ | ⟨x, l, c, zs, hcs, _, hl, hm, hz, _, hcell, hwz⟩
    · simp [Value.cells] at hcs
      obtain ⟨rfl, rfl, rfl⟩ := hcs
      exact ⟨[], .inl ⟨rfl, rfl, rfl, rfl⟩⟩
    · simp [Value.cells] at hcs
      obtain ⟨rfl, rfl, rfl⟩ := hcs
      exact ⟨zs, .inr ⟨_, rfl, hl, hm, by simpa using hz, hcell, hwz⟩⟩
  clear hA0 hval0
  refine (walk a0 a1 len1 cap1 _ W w1.rd.1 w1.rd.2).mono fun e W' ⟨he, bel⟩ => ?_
  subst he
  exact ⟨_, rfl, _, _, _, [], _, [], hW', trodAll_mk1 (shut_bool Try.underlying4 _), (trodAll_cons_mk (shut_int Try.underlying3 w0) (trodAll_cons_mk (Below.trod laidOut (by kernel_rfl) (of_decide_eq_true (by kernel_rfl)) k1 bel lt1) trodAll_mk0)), rfl, bel.frame _, fun h => by cases h⟩

theorem over : Rows.tickReadsRow.holds Try.pinned (OpenSpec.ofChange Rows.tickReadsSpec) :=
  OpenClaim.holds_of_wide 3 Try.f3 rfl rfl rfl rfl rfl rfl rfl ⟨rfl, rfl, rfl, rfl, rfl⟩ rfl rfl rfl rfl rfl (by kernel_rfl) Try.func3 (by kernel_rfl)
    (of_decide_eq_true (by kernel_rfl)) (by unfold Func.isWrapper; first | (rw [if_pos (by decide +kernel)]; kernel_rfl) | (rw [if_neg (by decide +kernel)]; exact ⟨rfl, rfl⟩))
    (fun os started H enc _ => lifted os started H enc)

/-- The statement. -/
theorem proved : Rows.TickReadsSaid := over
end Go.Proofs.Ytdlbgelidcfmiaa.tickReads
