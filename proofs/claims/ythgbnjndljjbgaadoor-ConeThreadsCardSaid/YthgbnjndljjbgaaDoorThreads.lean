/- Proved: ConeThreads returns true at every input, and its arguments read afterwards as before, tied to the program's text. Conditions: none. -/
import Derived.Test.YthgbnjndljjbgaaDoorFrc
import Derived.Test.YthgbnjndljjbgaaDoorW32
namespace Go.Proofs.YthgbnjndljjbgaaDoor.coneThreads
open Go.ChangeShapes Go.WideShapes Go.ChangeAt Go.RowKit Go.Firn

set_option maxHeartbeats 2000000 in
set_option maxRecDepth 20000 in
theorem walk (adr : Option Addr) (n cc : Nat) (P T : Nat → Int) (a : Option Addr) (N c : Nat) (r : Nat → Nat × (Nat → Int)) (w : World) (hn : n ≤ 9223372036854775807) (hw : WfH n P T) (hh : RdM w adr n P T) (hN : N ≤ 9223372036854775807) (_hc : N ≤ c) (hr : RdT w a N r) (hT : Tab w) :
    Calls Tryd.prog 8 #[.slice adr n cc, .slice a N c] w (RetB true w) := by
  have HW := Lib.hid hw
  have HH := Lib.hid hh
  have HR := Lib.hid hr
  have TT := Lib.hid hT
  clear hw hh hr hT
  by_cases h40 : 40 < n
  · have S := Lib.hid (Sane_any w TT.out)
    have t1 : decide (40 < n) = true := by simpa using h40
    go_enter Tryd.func8, Tryd.ntmps8
    go_wp2_with (first
      | (go_at_call 15; refine (Long_any adr n cc _ hn).mono ?_; rintro e w1 ⟨rfl, rfl⟩; rw [t1])
      | (go_at_call 16; refine S.out.mono ?_; rintro e w2 ⟨rfl, g2⟩))
    go_ret
    exact ⟨rfl, g2⟩
  have t1 : decide (40 < n) = false := by simpa using h40
  have hn' : n ≤ 1000 := by omega
  have WQ := Lib.hid (Wide_q a N c r w hN HR.out)
  cases hwd : wideB N r with
  | true =>
    rw [hwd] at WQ
    clear hwd
    go_enter Tryd.func8, Tryd.ntmps8
    go_wp2_with (first
      | (go_at_call 15; refine (Long_any adr n cc _ hn).mono ?_; rintro e w1 ⟨rfl, rfl⟩; rw [t1])
      | (go_at_call 36; (with_reducible refine WQ.out.mono ?_); rintro e w1 h1; obtain ⟨rfl, g1⟩ := h1.gr; clear h1)
      | (go_at_call 16; refine (Sane_any _ (TT.out.gr g1)).mono ?_; rintro e w2 ⟨rfl, g2⟩))
    go_ret
    exact ⟨rfl, g1.trans g2⟩
  | false =>
  obtain ⟨n60, r60⟩ := wideB_false hwd
  have R60 := Lib.hid r60
  rw [hwd] at WQ
  clear hwd r60
  have C1 := Lib.hid (fun w h1 h2 => AreThreads_any adr n cc P T a N c r w hn' HW.out n60 R60.out h1 h2)
  have C2 := Lib.hid (fun w h1 h2 => refAreThreads_any adr n cc P T a N c r w hn' n60 R60.out h1 h2)
  have C4 := Lib.hid (fun w hr => refLayer_any adr n cc P T w hn' hr)
  cases hv : vH n P T with
  | false =>
    have HV := Lib.hid hv
    have e2 : errH n P T = 20 := by unfold errH; rw [hv]; rfl
    have e3 : layG n P T = [] := by unfold layG; rw [hv]; rfl
    rw [e2] at C1 C2 C4
    rw [e3] at C4
    clear hv e2 e3
    generalize areG n P T (chnB n P T) N r = ar at C1 C2
    have z2 : (ar == ar) = true := by simp
    have z3 : (ar != ar) = false := by simp
    go_enter Tryd.func8, Tryd.ntmps8
    go_wp2_with (first
      | (go_at_call 15; refine (Long_any adr n cc _ hn).mono ?_; rintro e w1 ⟨rfl, rfl⟩; rw [t1])
      | (go_at_call 36; (with_reducible refine WQ.out.mono ?_); rintro e w1 h1; obtain ⟨rfl, g0⟩ := h1.gr; clear h1; have G0 := Lib.hid g0; clear g0)
      | (go_at_call 42; refine (C1.out _ (HH.out.gr G0.out) (HR.out.gr G0.out)).mono ?_; rintro e w1 ⟨rfl, g1⟩; have G1 := Lib.hid (G0.out.trans g1); clear g1)
      | (go_at_call 43; refine (C2.out _ (HH.out.gr G1.out) (HR.out.gr G1.out)).mono ?_; rintro e w2 ⟨rfl, g2⟩; have G2 := Lib.hid (G1.out.trans g2); clear g2)
      | (go_at_call 44; refine (Threads_bad adr n cc P T _ hn' HV.out HW.out (HH.out.gr G2.out)).mono ?_; rintro e w3 ⟨rfl, g3⟩; have G3 := Lib.hid (G2.out.trans g3); clear g3)
      | (go_at_call 18; refine (C4.out _ (HH.out.gr G3.out)).mono ?_; rintro e w4 ⟨a1, c1, rfl, r1, r2, r3, g4⟩; have G4 := Lib.hid (G3.out.trans g4); clear g4 r1 r2 r3)
      | (go_at_call 16; refine (Sane_any _ (TT.out.gr G4.out)).mono ?_; rintro e w5 ⟨rfl, g5⟩; have G5 := Lib.hid (G4.out.trans g5); clear g5))
    go_ret
    exact ⟨rfl, G5.out⟩
  | true =>
    have HV := Lib.hid (vH_iff.1 hv)
    have e2 : errH n P T = 0 := by unfold errH; rw [hv]; rfl
    have e3 : layG n P T = layL n P T := by unfold layG; rw [hv]; rfl
    have EG := Lib.hid (show ∀ N r, areG n P T (chnB n P T) N r = areB n (chnB n P T) N r from fun N r => by unfold areG; rw [hv]; rfl)
    rw [e2] at C1 C2 C4
    rw [e3] at C4
    have E2 := Lib.hid e2
    clear hv e2 e3
    generalize areG n P T (chnB n P T) N r = ar at C1 C2
    have z2 : (ar == ar) = true := by simp
    have z3 : (ar != ar) = false := by simp
    go_enter Tryd.func8, Tryd.ntmps8
    go_wp2_with (first
      | (go_at_call 15; refine (Long_any adr n cc _ hn).mono ?_; rintro e w1 ⟨rfl, rfl⟩; rw [t1])
      | (go_at_call 36; (with_reducible refine WQ.out.mono ?_); rintro e w1 h1; obtain ⟨rfl, g0⟩ := h1.gr; clear h1; have G0 := Lib.hid g0; clear g0)
      | (go_at_call 42; refine (C1.out _ (HH.out.gr G0.out) (HR.out.gr G0.out)).mono ?_; rintro e w1 ⟨rfl, g1⟩; have G1 := Lib.hid (G0.out.trans g1); clear g1)
      | (go_at_call 43; (with_reducible refine (C2.out _ (HH.out.gr G1.out) (HR.out.gr G1.out)).mono ?_); rintro e w2 ⟨rfl, g2⟩; have G2 := Lib.hid (G1.out.trans g2); clear g2)
      | (go_at_call 44; refine (Threads_ok adr n cc P T _ HV.out HW.out (HH.out.gr G2.out) (TT.out.gr G2.out)).mono ?_; rintro e w3 ⟨x3, y3, tb, t1, t2, t3, t4, t5, t6, rfl, t7, g3⟩; have G3 := Lib.hid (G2.out.trans g3); have R3 := Lib.hid t7; have T2 := Lib.hid t2; have T3 := Lib.hid t3; have T4 := Lib.hid t4; clear g3 t2 t3 t4 t5 t6 t7; rw [t1] at R3 T2 T3 T4 ⊢; clear t1; rw [← EG.out] at T2)
      | (go_at_call 18; refine (C4.out _ (HH.out.gr G3.out)).mono ?_; rintro e w4 ⟨a1, c1, rfl, r1, r2, r3, g4⟩; have G4 := Lib.hid (G3.out.trans g4); have R4 := Lib.hid (R3.out.gr g4); clear g4 r1 r2 r3)
      | (go_at_call 43; refine (refAreThreads_any adr n cc P T _ _ _ _ _ hn' T4.out T3.out (HH.out.gr G4.out) R4.out).mono ?_; rintro e w5 ⟨rfl, g5⟩; have G5 := Lib.hid (G4.out.trans g5); clear g5; rw [T2.out, E2.out])
      | (go_at_call 16; refine (Sane_any _ (TT.out.gr G5.out)).mono ?_; rintro e w6 ⟨rfl, g6⟩; have G6 := Lib.hid (G5.out.trans g6); clear g6))
    go_ret
    exact ⟨rfl, G6.out⟩

set_option maxRecDepth 100000 in
theorem contract (H : Type) (enc : TypeId × Value → H) (W : World) (base : Nat) (args : Array Value) (ds gs : List (DataW H)) (before : List MemPlace)
    (hval0 : ∀ (j : Nat) t v, Tryd.f8.params[j]? = some t → args[j]? = some v → Value.okWide Tryd.prog W .any base t v)
    (hW : DataW.Whole enc Tryd.prog Tryd.f8.params.toList Rows.coneThreadsSpec.vars false W args.toList ds gs before) (hL : laidMetH Tryd.prog Rows.coneThreadsRow.laid W) :
    Calls Tryd.prog 8 args W fun e W' => ∃ v, e = .returned v ∧ Rows.coneThreadsSpec.post enc Tryd.prog Tryd.f8 false true false false W args v W' := by
  have hval : ∀ (j : Nat) t v, Tryd.f8.params[j]? = some t → args[j]? = some v → Value.okWide Tryd.prog W .any base t v := hval0
  have hW' := hW
  obtain ⟨p, q, hA0, hV, rfl, hfz, hnd⟩ := hW
  have hA : DataW.TrodAll enc Tryd.prog W 0 (fun _ => true) true Tryd.f8.params.toList args.toList ds p := hA0
  rw [Tryd.params8] at hA hval
  obtain ⟨v0, vs0, d0, ds0, p0, q0, hargs, rfl, rfl, h0, r0⟩ := trodAll_cons hA
  obtain ⟨v1, vs1, d1, ds1, p1, q1, rfl, rfl, rfl, h1, r1⟩ := trodAll_cons r0
  obtain ⟨rfl, rfl, rfl⟩ := trodAll_nil r1
  obtain rfl : args = #[v0, v1] := by cases args; simp_all
  obtain ⟨rfl, rfl⟩ := trodVars_none hV
  obtain ⟨a0, len0, cap0, rfl⟩ := okWide_slice Tryd.underlying22 (hval 0 22 v0 rfl rfl)
  have k0 := h0
  have lt0 : ∀ x ∈ p0, x.block < W.heap.size := by obtain ⟨m, hm⟩ := k0; exact DataW.trod_lt m _ _ _ hm
  obtain ⟨x0, y0, wn0, wf0, wr0⟩ : ∃ f g : Nat → Int, len0 ≤ 9223372036854775807 ∧ (∀ i, i < len0 → (Lit.int .i64 (f i)).wf = true ∧ (Lit.int .i64 (g i)).wf = true) ∧ RdM W a0 len0 f g := by
    obtain ⟨fuel, hf⟩ := h0
    exact RdM.of_trod Tryd.underlying22 Tryd.underlying51 (by kernel_rfl) ⟨rfl, rfl⟩ ⟨rfl, rfl⟩ (by kernel_rfl) Tryd.underlying3 hf
  obtain ⟨a1, len1, cap1, rfl⟩ := okWide_slice Tryd.underlying43 (hval 1 43 v1 rfl rfl)
  have k1 := h1
  have lt1 : ∀ x ∈ p1, x.block < W.heap.size := by obtain ⟨m, hm⟩ := k1; exact DataW.trod_lt m _ _ _ hm
  obtain ⟨r1x, wn1, wc1, wr1⟩ : ∃ r : Nat → Nat × (Nat → Int), len1 ≤ 9223372036854775807 ∧ len1 ≤ cap1 ∧ RdT W a1 len1 r := by
    obtain ⟨fuel, hf⟩ := h1
    exact RdT.of_trod Tryd.underlying43 Tryd.underlying23 Tryd.underlying3 (by kernel_rfl) (by kernel_rfl) hf
  clear hA0 hval0
  refine (walk a0 len0 cap0 x0 y0 a1 len1 cap1 r1x W wn0 wf0 wr0 wn1 wc1 wr1 (tab_of hL)).mono fun e W' ⟨he, bel⟩ => ?_
  subst he
  exact ⟨_, rfl, _, _, _, [], _, [], hW', trodAll_mk1 (shut_bool Tryd.underlying4 _), (trodAll_cons_mk (Below.trod laidOut (by kernel_rfl) (of_decide_eq_true (by kernel_rfl)) k0 bel lt0) (trodAll_cons_mk (Below.trod laidOut (by kernel_rfl) (of_decide_eq_true (by kernel_rfl)) k1 bel lt1) trodAll_mk0)), rfl, bel.frame _, fun h => by cases h⟩

set_option maxRecDepth 100000 in
theorem met (os : Os) : laidMet Tryd.prog Rows.coneThreadsRow.laid ((laidWorld os).forCall (fun _ _ => 0) ⟨#[], #[.slice none 0 0, .slice none 0 0], []⟩).memory :=
  laidMet_of_run' 8 (by kernel_rfl) (by kernel_rfl)
set_option maxRecDepth 100000 in
theorem reads (os : Os) (H : Type) (enc : TypeId × Value → H) : ∃ places, DataW.whole enc Tryd.prog ((laidWorld os).forCall (fun _ _ => 0) ⟨#[], #[.slice none 0 0, .slice none 0 0], []⟩).memory Tryd.f8.params.toList Rows.coneThreadsSpec.vars false (#[.slice none 0 0, .slice none 0 0] : Array Value).toList 8 = some ([.nil, .nil], [], places) :=
  ⟨[], by kernel_rfl⟩

set_option maxRecDepth 100000 in
theorem lifted (os : Os) (started : os.Started) (H : Type) (enc : TypeId × Value → H) (F : Stop.Interp) :
    ReturnsInHanded {} Tryd.checked os 8 .any ((OpenSpec.ofChange Rows.coneThreadsSpec).preRow enc Tryd.prog Tryd.f8 Rows.coneThreadsRow.domain false Rows.coneThreadsRow.laid) (((OpenSpec.ofChange Rows.coneThreadsSpec).at F).post enc Tryd.prog Tryd.f8 false true false false) := by
  obtain ⟨places, hx⟩ := reads os H enc
  refine returnsInHanded_of_row (C := Tryd.checked) (s := OpenSpec.ofChange Rows.coneThreadsSpec) own started (by kernel_rfl) Tryd.func8
    (witness_row_at (enc := enc) (C := Tryd.checked) false (laidWorld os) #[.slice none 0 0, .slice none 0 0] rfl (by kernel_rfl) (by kernel_rfl) (by kernel_rfl)
      (OpenSpec.preRow_of_cond 8 hx (by kernel_rfl) (fun k hk => by cases hk) (by kernel_rfl) (met os))) ?_
  intro W base args ds gs before hval hW _ _ _ hL _ _
  exact contract H enc W base args ds gs before hval hW hL

theorem said : Rows.ConeThreadsSaid :=
  OpenClaim.holds_of_cond 8 Tryd.f8 rfl rfl rfl rfl rfl rfl rfl ⟨rfl, rfl, rfl, rfl, rfl⟩ rfl rfl rfl rfl rfl (by kernel_rfl) Tryd.func8 (by kernel_rfl)
    (of_decide_eq_true (by kernel_rfl)) (by unfold Func.isWrapper; first | (rw [if_pos (by decide +kernel)]; kernel_rfl) | (rw [if_neg (by decide +kernel)]; exact ⟨rfl, rfl⟩))
    (fun os started H enc _ F => by rw [OpenClaim.pre_eq_preRow]; exact lifted os started H enc F)

set_option maxRecDepth 100000 in
theorem plain (f : FuncId) (fn : Func) (hf : Tryd.pinned.checked.prog.funcNamed Rows.coneThreadsRow.func = some f) (hfn : Tryd.pinned.checked.prog.funcs[f]? = some fn) :
    false = Tryd.pinned.checked.prog.looks [] ∧ ∀ (j : Nat) t, fn.params[j]? = some t → Tryd.pinned.checked.prog.wantsStandIn t = false := by
  obtain rfl : f = 8 := Option.some.inj ((show Tryd.prog.funcNamed Rows.coneThreadsRow.func = some 8 by kernel_rfl).symm.trans hf) |>.symm
  obtain rfl : fn = Tryd.f8 := (Option.some.inj (Tryd.func8.symm.trans hfn)).symm
  refine ⟨by kernel_rfl, fun j t ht => ?_⟩
  rw [Tryd.params8] at ht
  have hm : t ∈ (#[22, 43] : Array TypeId) := Array.mem_of_getElem? ht
  simp only [List.mem_toArray, List.mem_cons, List.not_mem_nil, or_false] at hm
  rcases hm with rfl | rfl
  all_goals first
    | exact (show Tryd.prog.wantsStandIn 22 = false by kernel_rfl)
    | exact (show Tryd.prog.wantsStandIn 43 = false by kernel_rfl)

/-- The statement. -/
theorem proved : Rows.ConeThreadsCardSaid :=
  Claim7.holds_tied_plain_at .later [] _ _ _ _ said (fun _ h => by cases h) (by kernel_rfl) (fun _ h => by cases h) coneThreads_row_tie rfl ⟨rfl, rfl⟩ (by kernel_rfl) rfl plain (by kernel_rfl)
end Go.Proofs.YthgbnjndljjbgaaDoor.coneThreads
