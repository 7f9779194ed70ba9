/- Proved: TopCone returns true at every input, and its arguments read afterwards as before, tied to the program's text. Conditions: none. -/
import Derived.Test.YtjokheeegcilhaaDoorFrc
import Derived.Test.YtjokheeegcilhaaDoorW39
namespace Go.Proofs.YtjokheeegcilhaaDoor.topCone
open Go.ChangeShapes Go.WideShapes Go.ChangeAt Go.RowKit Go.Firn

set_option maxHeartbeats 2000000 in
set_option maxRecDepth 20000 in
theorem walk (adr : Option Addr) (n cc : Nat) (P T : Nat → Int) (a1 : Option Addr) (m c1 : Nat) (l : Nat → Int) (a : Option Addr) (N c : Nat) (r : Nat → Nat × (Nat → Int)) (w : World) (hn : n ≤ 9223372036854775807) (hw : WfH n P T) (hh : RdM w adr n P T)
    (hm : m ≤ 9223372036854775807) (hmc : m ≤ c1) (hl : RdI w a1 m l) (hN : N ≤ 9223372036854775807) (_hc : N ≤ c) (hr : RdT w a N r) (hT : Tab w) :
    Calls Tryd.prog 9 #[.slice adr n cc, .slice a1 m c1, .slice a N c] w (RetB true w) := by
  by_cases h40 : 40 < n
  · have S := Lib.hid (Sane_any w hT)
    have t1 : decide (40 < n) = true := by simpa using h40
    clear hh hl hr hT hw
    go_enter Tryd.func9, Tryd.ntmps9
    go_wp2_with (first
      | (go_at_call 15; refine (Long_any adr n cc _ hn).mono ?_; rintro e w1 ⟨rfl, rfl⟩; rw [t1])
      | (go_at_call 16; refine S.out.mono ?_; rintro e w2 ⟨rfl, g2⟩))
    go_ret
    exact ⟨rfl, g2⟩
  have t1 : decide (40 < n) = false := by simpa using h40
  by_cases h100 : 100 < m
  · have TT := Lib.hid hT
    have m1 : (100 : Int) < (m : Int) := by omega
    clear hh hl hr hT hw
    go_enter Tryd.func9, Tryd.ntmps9
    go_wp2_with (first
      | (go_at_call 15; refine (Long_any adr n cc _ hn).mono ?_; rintro e w1 ⟨rfl, rfl⟩; rw [t1])
      | (go_at_call 16; refine (Sane_any _ (TT.out)).mono ?_; rintro e w2 ⟨rfl, g2⟩))
    go_ret
    exact ⟨rfl, g2⟩
  have m1 : (m : Int) ≤ (100 : Int) := by omega
  cases hwd : wideB N r with
  | true =>
    have TT := Lib.hid hT
    have HR := Lib.hid hr
    have WD := Lib.hid hwd
    clear hh hl hr hT hw hwd
    go_enter Tryd.func9, Tryd.ntmps9
    go_wp2_with (first
      | (go_at_call 15; refine (Long_any adr n cc _ hn).mono ?_; rintro e w1 ⟨rfl, rfl⟩; rw [t1])
      | (go_at_call 36; (with_reducible refine (Wide_q a N c r _ hN (HR.out)).mono ?_); rintro e w2 h2; obtain ⟨rfl, g⟩ := h2.gr; clear h2; rw [WD.out]; have G2 := Lib.hid g; clear g)
      | (go_at_call 16; refine (Sane_any _ (TT.out.gr G2.out)).mono ?_; rintro e w2 ⟨rfl, g2⟩))
    go_ret
    exact ⟨rfl, G2.out.trans g2⟩
  | false =>
    obtain ⟨n60, r60⟩ := wideB_false hwd
    exact main adr n cc P T a1 m c1 l a N c r w (by omega) hw hh (by omega) hmc hl n60 r60 hwd hr hT



set_option maxRecDepth 100000 in
theorem contract (H : Type) (enc : TypeId × Value → H) (W : World) (base : Nat) (args : Array Value) (ds gs : List (DataW H)) (before : List MemPlace)
    (hval0 : ∀ (j : Nat) t v, Tryd.f9.params[j]? = some t → args[j]? = some v → Value.okWide Tryd.prog W .any base t v)
    (hW : DataW.Whole enc Tryd.prog Tryd.f9.params.toList Rows.topConeSpec.vars false W args.toList ds gs before) (hL : laidMetH Tryd.prog Rows.topConeRow.laid W) :
    Calls Tryd.prog 9 args W fun e W' => ∃ v, e = .returned v ∧ Rows.topConeSpec.post enc Tryd.prog Tryd.f9 false true false false W args v W' := by
  have hval : ∀ (j : Nat) t v, Tryd.f9.params[j]? = some t → args[j]? = some v → Value.okWide Tryd.prog W .any base t v := hval0
  have hW' := hW
  obtain ⟨p, q, hA0, hV, rfl, hfz, hnd⟩ := hW
  have hA : DataW.TrodAll enc Tryd.prog W 0 (fun _ => true) true Tryd.f9.params.toList args.toList ds p := hA0
  rw [Tryd.params9] at hA hval
  obtain ⟨v0, vs0, d0, ds0, p0, q0, hargs, rfl, rfl, h0, r0⟩ := trodAll_cons hA
  obtain ⟨v1, vs1, d1, ds1, p1, q1, rfl, rfl, rfl, h1, r1⟩ := trodAll_cons r0
  obtain ⟨v2, vs2, d2, ds2, p2, q2, rfl, rfl, rfl, h2, r2⟩ := trodAll_cons r1
  obtain ⟨rfl, rfl, rfl⟩ := trodAll_nil r2
  obtain rfl : args = #[v0, v1, v2] := by cases args; simp_all
  obtain ⟨rfl, rfl⟩ := trodVars_none hV
  obtain ⟨a0, len0, cap0, rfl⟩ := okWide_slice Tryd.underlying22 (hval 0 22 v0 rfl rfl)
  have k0 := h0
  have lt0 : ∀ x ∈ p0, x.block < W.heap.size := by obtain ⟨m, hm⟩ := k0; exact DataW.trod_lt m _ _ _ hm
  obtain ⟨x0, y0, wn0, wf0, wr0⟩ : ∃ f g : Nat → Int, len0 ≤ 9223372036854775807 ∧ (∀ i, i < len0 → (Lit.int .i64 (f i)).wf = true ∧ (Lit.int .i64 (g i)).wf = true) ∧ RdM W a0 len0 f g := by
    obtain ⟨fuel, hf⟩ := h0
    exact RdM.of_trod Tryd.underlying22 Tryd.underlying51 (by kernel_rfl) ⟨rfl, rfl⟩ ⟨rfl, rfl⟩ (by kernel_rfl) Tryd.underlying3 hf
  obtain ⟨a1, len1, cap1, rfl⟩ := okWide_slice Tryd.underlying23 (hval 1 23 v1 rfl rfl)
  have k1 := h1
  have lt1 : ∀ x ∈ p1, x.block < W.heap.size := by obtain ⟨m, hm⟩ := k1; exact DataW.trod_lt m _ _ _ hm
  obtain ⟨z1, w1⟩ : ∃ zs, IsRow W a1 len1 cap1 zs := by
    obtain ⟨fuel, hf⟩ := h1
    rcases open_ints Tryd.underlying23 Tryd.underlying3 (by kernel_rfl) hf with ⟨hcs, _⟩ | ⟨x, l, c, zs, hcs, _, hl, hm, hz, _, hcell, hwz⟩
    · simp [Value.cells] at hcs
      obtain ⟨rfl, rfl, rfl⟩ := hcs
      exact ⟨[], .inl ⟨rfl, rfl, rfl, rfl⟩⟩
    · simp [Value.cells] at hcs
      obtain ⟨rfl, rfl, rfl⟩ := hcs
      exact ⟨zs, .inr ⟨_, rfl, hl, hm, by simpa using hz, hcell, hwz⟩⟩
  obtain ⟨a2, len2, cap2, rfl⟩ := okWide_slice Tryd.underlying43 (hval 2 43 v2 rfl rfl)
  have k2 := h2
  have lt2 : ∀ x ∈ p2, x.block < W.heap.size := by obtain ⟨m, hm⟩ := k2; exact DataW.trod_lt m _ _ _ hm
  obtain ⟨r2x, wn2, wc2, wr2⟩ : ∃ r : Nat → Nat × (Nat → Int), len2 ≤ 9223372036854775807 ∧ len2 ≤ cap2 ∧ RdT W a2 len2 r := by
    obtain ⟨fuel, hf⟩ := h2
    exact RdT.of_trod Tryd.underlying43 Tryd.underlying23 Tryd.underlying3 (by kernel_rfl) (by kernel_rfl) hf
  clear hA0 hval0
  refine (walk a0 len0 cap0 x0 y0 a1 len1 cap1 _ a2 len2 cap2 r2x W wn0 wf0 wr0 w1.rd.1 w1.cap w1.rd.2 wn2 wc2 wr2 (tab_of hL)).mono fun e W' ⟨he, bel⟩ => ?_
  subst he
  exact ⟨_, rfl, _, _, _, [], _, [], hW', trodAll_mk1 (shut_bool Tryd.underlying4 _), (trodAll_cons_mk (Below.trod laidOut (by kernel_rfl) (of_decide_eq_true (by kernel_rfl)) k0 bel lt0) (trodAll_cons_mk (Below.trod laidOut (by kernel_rfl) (of_decide_eq_true (by kernel_rfl)) k1 bel lt1) (trodAll_cons_mk (Below.trod laidOut (by kernel_rfl) (of_decide_eq_true (by kernel_rfl)) k2 bel lt2) trodAll_mk0))), rfl, bel.frame _, fun h => by cases h⟩

set_option maxRecDepth 100000 in
theorem met (os : Os) : laidMet Tryd.prog Rows.topConeRow.laid ((laidWorld os).forCall (fun _ _ => 0) ⟨#[], #[.slice none 0 0, .slice none 0 0, .slice none 0 0], []⟩).memory :=
  laidMet_of_run' 8 (by kernel_rfl) (by kernel_rfl)
set_option maxRecDepth 100000 in
theorem reads (os : Os) (H : Type) (enc : TypeId × Value → H) : ∃ places, DataW.whole enc Tryd.prog ((laidWorld os).forCall (fun _ _ => 0) ⟨#[], #[.slice none 0 0, .slice none 0 0, .slice none 0 0], []⟩).memory Tryd.f9.params.toList Rows.topConeSpec.vars false (#[.slice none 0 0, .slice none 0 0, .slice none 0 0] : Array Value).toList 8 = some ([.nil, .nil, .nil], [], places) :=
  ⟨[], by kernel_rfl⟩

set_option maxRecDepth 100000 in
theorem lifted (os : Os) (started : os.Started) (H : Type) (enc : TypeId × Value → H) (F : Stop.Interp) :
    ReturnsInHanded {} Tryd.checked os 9 .any ((OpenSpec.ofChange Rows.topConeSpec).preRow enc Tryd.prog Tryd.f9 Rows.topConeRow.domain false Rows.topConeRow.laid) (((OpenSpec.ofChange Rows.topConeSpec).at F).post enc Tryd.prog Tryd.f9 false true false false) := by
  obtain ⟨places, hx⟩ := reads os H enc
  refine returnsInHanded_of_row (C := Tryd.checked) (s := OpenSpec.ofChange Rows.topConeSpec) own started (by kernel_rfl) Tryd.func9
    (witness_row_at (enc := enc) (C := Tryd.checked) false (laidWorld os) #[.slice none 0 0, .slice none 0 0, .slice none 0 0] rfl (by kernel_rfl) (by kernel_rfl) (by kernel_rfl)
      (OpenSpec.preRow_of_cond 8 hx (by kernel_rfl) (fun k hk => by cases hk) (by kernel_rfl) (met os))) ?_
  intro W base args ds gs before hval hW _ _ _ hL _ _
  exact contract H enc W base args ds gs before hval hW hL

theorem said : Rows.TopConeSaid :=
  OpenClaim.holds_of_cond 9 Tryd.f9 rfl rfl rfl rfl rfl rfl rfl ⟨rfl, rfl, rfl, rfl, rfl⟩ rfl rfl rfl rfl rfl (by kernel_rfl) Tryd.func9 (by kernel_rfl)
    (of_decide_eq_true (by kernel_rfl)) (by unfold Func.isWrapper; first | (rw [if_pos (by decide +kernel)]; kernel_rfl) | (rw [if_neg (by decide +kernel)]; exact ⟨rfl, rfl⟩))
    (fun os started H enc _ F => by rw [OpenClaim.pre_eq_preRow]; exact lifted os started H enc F)

set_option maxRecDepth 100000 in
theorem plain (f : FuncId) (fn : Func) (hf : Tryd.pinned.checked.prog.funcNamed Rows.topConeRow.func = some f) (hfn : Tryd.pinned.checked.prog.funcs[f]? = some fn) :
    false = Tryd.pinned.checked.prog.looks [] ∧ ∀ (j : Nat) t, fn.params[j]? = some t → Tryd.pinned.checked.prog.wantsStandIn t = false := by
  obtain rfl : f = 9 := Option.some.inj ((show Tryd.prog.funcNamed Rows.topConeRow.func = some 9 by kernel_rfl).symm.trans hf) |>.symm
  obtain rfl : fn = Tryd.f9 := (Option.some.inj (Tryd.func9.symm.trans hfn)).symm
  refine ⟨by kernel_rfl, fun j t ht => ?_⟩
  rw [Tryd.params9] at ht
  have hm : t ∈ (#[22, 23, 43] : Array TypeId) := Array.mem_of_getElem? ht
  simp only [List.mem_toArray, List.mem_cons, List.not_mem_nil, or_false] at hm
  rcases hm with rfl | rfl | rfl
  all_goals first
    | exact (show Tryd.prog.wantsStandIn 22 = false by kernel_rfl)
    | exact (show Tryd.prog.wantsStandIn 23 = false by kernel_rfl)
    | exact (show Tryd.prog.wantsStandIn 43 = false by kernel_rfl)

/-- The statement. -/
theorem proved : Rows.TopConeCardSaid :=
  Claim7.holds_tied_plain_at .later [] _ _ _ _ said (fun _ h => by cases h) (by kernel_rfl) (fun _ h => by cases h) topCone_row_tie rfl ⟨rfl, rfl⟩ (by kernel_rfl) rfl plain (by kernel_rfl)
end Go.Proofs.YtjokheeegcilhaaDoor.topCone
