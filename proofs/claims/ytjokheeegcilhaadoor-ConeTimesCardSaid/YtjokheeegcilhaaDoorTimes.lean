/- Proved: ConeTimes returns true at every input, and its arguments read afterwards as before, tied to the program's text. Conditions: none. -/
import Derived.Test.YtjokheeegcilhaaDoorFra
import Derived.Test.YtjokheeegcilhaaDoorWO
namespace Go.Proofs.YtjokheeegcilhaaDoor.coneTimes
open Go.ChangeShapes Go.WideShapes Go.ChangeAt Go.RowKit Go.Firn

theorem wf16 {x : Int} (h : (Lit.int .u16 x).wf = true) : ∃ n : Nat, x = n ∧ n < 65536 := by
  simp [Lit.wf, IntKind.min, IntKind.max, IntKind.signed, IntKind.bits] at h
  exact ⟨x.toNat, by omega, by omega⟩
set_option maxHeartbeats 2000000 in
set_option maxRecDepth 20000 in
theorem walk (adr : Option Addr) (n cc : Nat) (P T : Nat → Int) (X Y0 Y1 : Int) (w : World) (hn : n ≤ 9223372036854775807) (hw : WfH n P T) (hh : RdM w adr n P T) (wx : (Lit.int .u8 X).wf = true) (w0 : (Lit.int .u16 Y0).wf = true) (w1 : (Lit.int .u16 Y1).wf = true) (hT : Tab w) :
    Calls Tryd.prog 12 #[.slice adr n cc, .int .u8 X, .agg #[.int .u16 Y0, .int .u16 Y1]] w (RetB true w) := by
  obtain ⟨x, rfl, bx⟩ := wf8 wx
  obtain ⟨y0, rfl, b0⟩ := wf16 w0
  obtain ⟨y1, rfl, b1⟩ := wf16 w1
  have TT := Lib.hid hT
  have G0 := Lib.hid ((Gr.refl w).alloc (.cells #[.int .u16 y0, .int .u16 y1] 58))
  by_cases h40 : 40 < n
  · have S := Lib.hid (Sane_any _ (TT.out.gr G0.out))
    have t1 : decide (40 < n) = true := by simpa using h40
    clear hw hh hT
    go_enter Tryd.func12, Tryd.ntmps12
    go_wp2_with (first
      | (go_at_call 15; refine (Long_any adr n cc _ hn).mono ?_; rintro e w1 ⟨rfl, rfl⟩; rw [t1])
      | (go_at_call 16; refine S.out.mono ?_; rintro e w2 ⟨rfl, g2⟩))
    go_ret
    exact ⟨rfl, G0.out.trans g2⟩
  have t1 : decide (40 < n) = false := by simpa using h40
  cases hv : vH n P T with
  | false =>
    have CV := Lib.hid (fun w1 (k : Gr w w1) => by have := (refValid_any adr n cc P T w1 (by omega) (hh.gr k)).mono fun _ _ h => h.b; rw [hv] at this; exact this)
    clear hw hh hT
    go_enter Tryd.func12, Tryd.ntmps12
    go_wp2_with (first
      | (go_at_call 15; refine (Long_any adr n cc _ hn).mono ?_; rintro e w1 ⟨rfl, rfl⟩; rw [t1])
      | (go_at_call 27; (with_reducible refine (CV.out _ G0.out).mono ?_); rintro e w1 ⟨rfl, g1⟩; have G1 := Lib.hid (G0.out.trans g1); clear g1)
      | (go_at_call 16; refine (Sane_any _ (TT.out.gr G1.out)).mono ?_; rintro e w2 ⟨rfl, g2⟩))
    go_ret
    exact ⟨rfl, G1.out.trans g2⟩
  | true => exact walk_ok adr n cc P T x y0 y1 w (vH_iff.1 hv) hw hh hT bx b0 b1

set_option maxRecDepth 100000 in
theorem contract (H : Type) (enc : TypeId × Value → H) (W : World) (base : Nat) (args : Array Value) (ds gs : List (DataW H)) (before : List MemPlace)
    (hval0 : ∀ (j : Nat) t v, Tryd.f12.params[j]? = some t → args[j]? = some v → Value.okWide Tryd.prog W .any base t v)
    (hW : DataW.Whole enc Tryd.prog Tryd.f12.params.toList Rows.coneTimesSpec.vars false W args.toList ds gs before) (hL : laidMetH Tryd.prog Rows.coneTimesRow.laid W) :
    Calls Tryd.prog 12 args W fun e W' => ∃ v, e = .returned v ∧ Rows.coneTimesSpec.post enc Tryd.prog Tryd.f12 false true false false W args v W' := by
  have hval : ∀ (j : Nat) t v, Tryd.f12.params[j]? = some t → args[j]? = some v → Value.okWide Tryd.prog W .any base t v := hval0
  have hW' := hW
  obtain ⟨p, q, hA0, hV, rfl, hfz, hnd⟩ := hW
  have hA : DataW.TrodAll enc Tryd.prog W 0 (fun _ => true) true Tryd.f12.params.toList args.toList ds p := hA0
  rw [Tryd.params12] at hA hval
  obtain ⟨v0, vs0, d0, ds0, p0, q0, hargs, rfl, rfl, h0, r0⟩ := trodAll_cons hA
  obtain ⟨v1, vs1, d1, ds1, p1, q1, rfl, rfl, rfl, h1, r1⟩ := trodAll_cons r0
  obtain ⟨v2, vs2, d2, ds2, p2, q2, rfl, rfl, rfl, h2, r2⟩ := trodAll_cons r1
  obtain ⟨rfl, rfl, rfl⟩ := trodAll_nil r2
  obtain rfl : args = #[v0, v1, v2] := by cases args; simp_all
  obtain ⟨rfl, rfl⟩ := trodVars_none hV
  obtain ⟨a0, len0, cap0, rfl⟩ := okWide_slice Tryd.underlying22 (hval 0 22 v0 rfl rfl)
  have k0 := h0
  have lt0 : ∀ x ∈ p0, x.block < W.heap.size := by obtain ⟨m, hm⟩ := k0; exact DataW.trod_lt m _ _ _ hm
  obtain ⟨x0, y0, wn0, wf0, wr0⟩ : ∃ f g : Nat → Int, len0 ≤ 9223372036854775807 ∧ (∀ i, i < len0 → (Lit.int .i64 (f i)).wf = true ∧ (Lit.int .i64 (g i)).wf = true) ∧ RdM W a0 len0 f g := by
    obtain ⟨fuel, hf⟩ := h0
    exact RdM.of_trod Tryd.underlying22 Tryd.underlying51 (by kernel_rfl) ⟨rfl, rfl⟩ ⟨rfl, rfl⟩ (by kernel_rfl) Tryd.underlying3 hf
  obtain ⟨a1, rfl, rfl, rfl, w1⟩ := open_int Tryd.underlying5 (hval 1 5 v1 rfl rfl) h1
  have k2 := h2
  have lt2 : ∀ x ∈ p2, x.block < W.heap.size := by obtain ⟨m, hm⟩ := k2; exact DataW.trod_lt m _ _ _ hm
  obtain ⟨x2_0, x2_1, rfl, w2_0, w2_1⟩ := open_arr2 (q := .u16) Tryd.underlying58 Tryd.underlying57 (by kernel_rfl) (by kernel_rfl) (hval 2 58 v2 rfl rfl) h2
  clear hA0 hval0
  refine (walk a0 len0 cap0 x0 y0 a1 x2_0 x2_1 W wn0 wf0 wr0 w1 w2_0 w2_1 (tab_of hL)).mono fun e W' ⟨he, bel⟩ => ?_
  subst he
  exact ⟨_, rfl, _, _, _, [], _, [], hW', trodAll_mk1 (shut_bool Tryd.underlying4 _), (trodAll_cons_mk (Below.trod laidOut (by kernel_rfl) (of_decide_eq_true (by kernel_rfl)) k0 bel lt0) (trodAll_cons_mk (shut_int Tryd.underlying5 w1) (trodAll_cons_mk (Below.trod laidOut (by kernel_rfl) (of_decide_eq_true (by kernel_rfl)) k2 bel lt2) trodAll_mk0))), rfl, bel.frame _, fun h => by cases h⟩

set_option maxRecDepth 100000 in
theorem met (os : Os) : laidMet Tryd.prog Rows.coneTimesRow.laid ((laidWorld os).forCall (fun _ _ => 0) ⟨#[], #[.slice none 0 0, .int .u8 0, .agg #[.int .u16 0, .int .u16 0]], []⟩).memory :=
  laidMet_of_run' 8 (by kernel_rfl) (by kernel_rfl)
set_option maxRecDepth 100000 in
theorem reads (os : Os) (H : Type) (enc : TypeId × Value → H) : ∃ places, DataW.whole enc Tryd.prog ((laidWorld os).forCall (fun _ _ => 0) ⟨#[], #[.slice none 0 0, .int .u8 0, .agg #[.int .u16 0, .int .u16 0]], []⟩).memory Tryd.f12.params.toList Rows.coneTimesSpec.vars false (#[.slice none 0 0, .int .u8 0, .agg #[.int .u16 0, .int .u16 0]] : Array Value).toList 8 = some ([.nil, .lit (.int .u8 0), .agg [.lit (.int .u16 0), .lit (.int .u16 0)]], [], places) :=
  ⟨[], by kernel_rfl⟩

set_option maxRecDepth 100000 in
theorem lifted (os : Os) (started : os.Started) (H : Type) (enc : TypeId × Value → H) (F : Stop.Interp) :
    ReturnsInHanded {} Tryd.checked os 12 .any ((OpenSpec.ofChange Rows.coneTimesSpec).preRow enc Tryd.prog Tryd.f12 Rows.coneTimesRow.domain false Rows.coneTimesRow.laid) (((OpenSpec.ofChange Rows.coneTimesSpec).at F).post enc Tryd.prog Tryd.f12 false true false false) := by
  obtain ⟨places, hx⟩ := reads os H enc
  refine returnsInHanded_of_row (C := Tryd.checked) (s := OpenSpec.ofChange Rows.coneTimesSpec) own started (by kernel_rfl) Tryd.func12
    (witness_row_at (enc := enc) (C := Tryd.checked) false (laidWorld os) #[.slice none 0 0, .int .u8 0, .agg #[.int .u16 0, .int .u16 0]] rfl (by kernel_rfl) (by kernel_rfl) (by kernel_rfl)
      (OpenSpec.preRow_of_cond 8 hx (by kernel_rfl) (fun k hk => by cases hk) (by kernel_rfl) (met os))) ?_
  intro W base args ds gs before hval hW _ _ _ hL _ _
  exact contract H enc W base args ds gs before hval hW hL

theorem said : Rows.ConeTimesSaid :=
  OpenClaim.holds_of_cond 12 Tryd.f12 rfl rfl rfl rfl rfl rfl rfl ⟨rfl, rfl, rfl, rfl, rfl⟩ rfl rfl rfl rfl rfl (by kernel_rfl) Tryd.func12 (by kernel_rfl)
    (of_decide_eq_true (by kernel_rfl)) (by unfold Func.isWrapper; first | (rw [if_pos (by decide +kernel)]; kernel_rfl) | (rw [if_neg (by decide +kernel)]; exact ⟨rfl, rfl⟩))
    (fun os started H enc _ F => by rw [OpenClaim.pre_eq_preRow]; exact lifted os started H enc F)

set_option maxRecDepth 100000 in
theorem plain (f : FuncId) (fn : Func) (hf : Tryd.pinned.checked.prog.funcNamed Rows.coneTimesRow.func = some f) (hfn : Tryd.pinned.checked.prog.funcs[f]? = some fn) :
    false = Tryd.pinned.checked.prog.looks [] ∧ ∀ (j : Nat) t, fn.params[j]? = some t → Tryd.pinned.checked.prog.wantsStandIn t = false := by
  obtain rfl : f = 12 := Option.some.inj ((show Tryd.prog.funcNamed Rows.coneTimesRow.func = some 12 by kernel_rfl).symm.trans hf) |>.symm
  obtain rfl : fn = Tryd.f12 := (Option.some.inj (Tryd.func12.symm.trans hfn)).symm
  refine ⟨by kernel_rfl, fun j t ht => ?_⟩
  rw [Tryd.params12] at ht
  have hm : t ∈ (#[22, 5, 58] : Array TypeId) := Array.mem_of_getElem? ht
  simp only [List.mem_toArray, List.mem_cons, List.not_mem_nil, or_false] at hm
  rcases hm with rfl | rfl | rfl
  all_goals first
    | exact (show Tryd.prog.wantsStandIn 22 = false by kernel_rfl)
    | exact (show Tryd.prog.wantsStandIn 5 = false by kernel_rfl)
    | exact (show Tryd.prog.wantsStandIn 58 = false by kernel_rfl)

/-- The statement. -/
theorem proved : Rows.ConeTimesCardSaid :=
  Claim7.holds_tied_plain_at .later [] _ _ _ _ said (fun _ h => by cases h) (by kernel_rfl) (fun _ h => by cases h) coneTimes_row_tie rfl ⟨rfl, rfl⟩ (by kernel_rfl) rfl plain (by kernel_rfl)
end Go.Proofs.YtjokheeegcilhaaDoor.coneTimes
