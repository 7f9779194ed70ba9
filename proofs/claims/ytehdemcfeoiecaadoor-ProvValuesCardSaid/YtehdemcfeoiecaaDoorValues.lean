/- Proved: ProvValues returns true at every input, and its arguments read afterwards as before, tied to the program's text. Conditions: none. -/
import Derived.Test.YtehdemcfeoiecaaDoorFra
import Derived.Test.YtehdemcfeoiecaaDoorW5
namespace Go.Proofs.YtehdemcfeoiecaaDoor.provValues
open Go.ChangeShapes Go.WideShapes Go.ChangeAt Go.RowKit Go.Firn

set_option maxHeartbeats 2000000 in
set_option maxRecDepth 20000 in
theorem walk (a : Option Addr) (n c : Nat) (f : Nat → ByteArray) (g : Nat → Int) (a' : Option Addr) (m c' : Nat) (l : Nat → Int) (w : World) (hn : n ≤ 9223372036854775807) (hz : ∀ i, i < n → (f i).size ≤ 9223372036854775807 ∧ (Lit.int .i64 (g i)).wf = true) (hr : RdS w a n f g) (hm : m ≤ 9223372036854775807) (_hmc : m ≤ c') (hl : RdI w a' m l) :
    Calls Tryd.prog 3 #[.slice a n c, .slice a' m c'] w (RetB true w) := by
  have CL := Lib.hid (fun w1 (k : Gr w w1) => Long_any a n c f g w1 hn (hr.gr k))
  have C1 := Lib.hid (fun w1 (k : Gr w w1) => Value_any a a' n c m c' f g l w1 hn (fun i hi => (hz i hi).1) hm (hr.gr k) (hl.gr k))
  have C2 := Lib.hid (fun w1 (k : Gr w w1) => refValue_any a a' n c m c' f g l w1 hn (fun i hi => (hz i hi).1) hm (hr.gr k) (hl.gr k))
  have C3 := Lib.hid (fun w1 (k : Gr w w1) => Cost_any a a' n c m c' f g l w1 hn (fun i hi => (hz i hi).1) hm (hr.gr k) (hl.gr k))
  have C4 := Lib.hid (fun w1 (k : Gr w w1) => refCost_any a a' n c m c' f g l w1 hn (fun i hi => (hz i hi).1) hm (hr.gr k) (hl.gr k))
  generalize lgS f n = lg at *
  generalize VlN f g n l m = v1 at *
  generalize VlE f g n l m = e1 at *
  generalize CsN f g n l m = v2 at *
  generalize CsE f g n l m = e2 at *
  have z1 : (v1 == v1) = true := by simp
  have z2 : (e1 == e1) = true := by simp
  have z3 : (v2 == v2) = true := by simp
  have z4 : (e2 == e2) = true := by simp
  clear hz hr hl
  cases lg with
  | true =>
    go_enter Tryd.func3, Tryd.ntmps3
    go_wp2_with (first
      | (go_at_call 9; (with_reducible refine (CL.out _ (Gr.refl _)).mono ?_); rintro e w1 ⟨rfl, g1⟩; have G1 := Lib.hid g1; clear g1)
      | (go_at_call 10; refine (Awake_any _).mono ?_; rintro e w2 ⟨rfl, g2⟩; have G2 := Lib.hid (G1.out.trans g2); clear g2))
    go_ret
    exact ⟨rfl, G2.out⟩
  | false =>
    by_cases h : 100 < m
    · have h2 : (100 : Int) < (m : Int) := by omega
      clear h
      go_enter Tryd.func3, Tryd.ntmps3
      go_wp2_with (first
        | (go_at_call 9; (with_reducible refine (CL.out _ (Gr.refl _)).mono ?_); rintro e w1 ⟨rfl, g1⟩; have G1 := Lib.hid g1; clear g1)
        | (go_at_call 10; refine (Awake_any _).mono ?_; rintro e w2 ⟨rfl, g2⟩; have G2 := Lib.hid (G1.out.trans g2); clear g2))
      go_ret
      exact ⟨rfl, G2.out⟩
    · have h2 : ¬ (100 : Int) < (m : Int) := by omega
      clear h
      go_enter Tryd.func3, Tryd.ntmps3
      go_wp2_with (first
        | (go_at_call 9; (with_reducible refine (CL.out _ (Gr.refl _)).mono ?_); rintro e w1 ⟨rfl, g1⟩; have G1 := Lib.hid g1; clear g1)
        | (go_at_call 11; (with_reducible refine (C1.out _ G1.out).mono ?_); rintro e w2 ⟨rfl, g2⟩; have G2 := Lib.hid (G1.out.trans g2); clear g2)
        | (go_at_call 12; (with_reducible refine (C2.out _ G2.out).mono ?_); rintro e w3 ⟨rfl, g3⟩; have G3 := Lib.hid (G2.out.trans g3); clear g3)
        | (go_at_call 13; (with_reducible refine (C3.out _ G3.out).mono ?_); rintro e w4 ⟨rfl, g4⟩; have G4 := Lib.hid (G3.out.trans g4); clear g4)
        | (go_at_call 14; (with_reducible refine (C4.out _ G4.out).mono ?_); rintro e w5 ⟨rfl, g5⟩; have G5 := Lib.hid (G4.out.trans g5); clear g5)
        | (go_at_call 10; refine (Awake_any _).mono ?_; rintro e w6 ⟨rfl, g6⟩; have G6 := Lib.hid (G5.out.trans g6); clear g6))
      go_ret
      exact ⟨rfl, G6.out⟩

set_option maxRecDepth 100000 in
theorem contract (H : Type) (enc : TypeId × Value → H) (W : World) (base : Nat) (args : Array Value) (ds gs : List (DataW H)) (before : List MemPlace)
    (hval0 : ∀ (j : Nat) t v, Tryd.f3.params[j]? = some t → args[j]? = some v → Value.okWide Tryd.prog W .any base t v)
    (hW : DataW.Whole enc Tryd.prog Tryd.f3.params.toList Rows.provValuesSpec.vars false W args.toList ds gs before) (_hL : laidMetH Tryd.prog Rows.provValuesRow.laid W) :
    Calls Tryd.prog 3 args W fun e W' => ∃ v, e = .returned v ∧ Rows.provValuesSpec.post enc Tryd.prog Tryd.f3 false true false false W args v W' := by
  have hval : ∀ (j : Nat) t v, Tryd.f3.params[j]? = some t → args[j]? = some v → Value.okWide Tryd.prog W .any base t v := hval0
  have hW' := hW
  obtain ⟨p, q, hA0, hV, rfl, hfz, hnd⟩ := hW
  have hA : DataW.TrodAll enc Tryd.prog W 0 (fun _ => true) true Tryd.f3.params.toList args.toList ds p := hA0
  rw [Tryd.params3] at hA hval
  obtain ⟨v0, vs0, d0, ds0, p0, q0, hargs, rfl, rfl, h0, r0⟩ := trodAll_cons hA
  obtain ⟨v1, vs1, d1, ds1, p1, q1, rfl, rfl, rfl, h1, r1⟩ := trodAll_cons r0
  obtain ⟨rfl, rfl, rfl⟩ := trodAll_nil r1
  obtain rfl : args = #[v0, v1] := by cases args; simp_all
  obtain ⟨rfl, rfl⟩ := trodVars_none hV
  obtain ⟨a0, len0, cap0, rfl⟩ := okWide_slice Tryd.underlying22 (hval 0 22 v0 rfl rfl)
  have k0 := h0
  have lt0 : ∀ x ∈ p0, x.block < W.heap.size := by obtain ⟨m, hm⟩ := k0; exact DataW.trod_lt m _ _ _ hm
  obtain ⟨x0, y0, wn0, wf0, wr0⟩ : ∃ (f : Nat → ByteArray) (g : Nat → Int), len0 ≤ 9223372036854775807 ∧ (∀ i, i < len0 → (f i).size ≤ 9223372036854775807 ∧ (Lit.int .i64 (g i)).wf = true) ∧ RdS W a0 len0 f g := by
    obtain ⟨fuel, hf⟩ := h0
    exact RdS.of_trod Tryd.underlying22 Tryd.underlying34 (by kernel_rfl) ⟨rfl, rfl⟩ ⟨rfl, rfl⟩ (by kernel_rfl) (by kernel_rfl) Tryd.underlying9 Tryd.underlying3 hf
  obtain ⟨a1, len1, cap1, rfl⟩ := okWide_slice Tryd.underlying23 (hval 1 23 v1 rfl rfl)
  have k1 := h1
  have lt1 : ∀ x ∈ p1, x.block < W.heap.size := by obtain ⟨m, hm⟩ := k1; exact DataW.trod_lt m _ _ _ hm
  obtain ⟨z1, w1⟩ : ∃ zs, IsRow W a1 len1 cap1 zs := by
    obtain ⟨fuel, hf⟩ := h1
    rcases open_ints Tryd.underlying23 Tryd.underlying3 (by kernel_rfl) hf with ⟨hcs, _⟩ | ⟨x, l, c, zs, hcs, _, hl, hm, hz, _, hcell, hwz⟩
    · simp [Value.cells] at hcs
      obtain ⟨rfl, rfl, rfl⟩ := hcs
      exact ⟨[], .inl ⟨rfl, rfl, rfl, rfl⟩⟩
    · simp [Value.cells] at hcs
      obtain ⟨rfl, rfl, rfl⟩ := hcs
      exact ⟨zs, .inr ⟨_, rfl, hl, hm, by simpa using hz, hcell, hwz⟩⟩
  clear hA0 hval0
  refine (walk a0 len0 cap0 x0 y0 a1 len1 cap1 _ W wn0 wf0 wr0 w1.rd.1 w1.cap w1.rd.2).mono fun e W' ⟨he, bel⟩ => ?_
  subst he
  exact ⟨_, rfl, _, _, _, [], _, [], hW', trodAll_mk1 (shut_bool Tryd.underlying4 _), (trodAll_cons_mk (Below.trod laidOut (by kernel_rfl) (of_decide_eq_true (by kernel_rfl)) k0 bel lt0) (trodAll_cons_mk (Below.trod laidOut (by kernel_rfl) (of_decide_eq_true (by kernel_rfl)) k1 bel lt1) trodAll_mk0)), rfl, bel.frame _, fun h => by cases h⟩

set_option maxRecDepth 100000 in
theorem met (os : Os) : laidMet Tryd.prog Rows.provValuesRow.laid ((laidWorld os).forCall (fun _ _ => 0) ⟨#[], #[.slice none 0 0, .slice none 0 0], []⟩).memory :=
  laidMet_of_run' 8 (by kernel_rfl) (by kernel_rfl)
set_option maxRecDepth 100000 in
theorem reads (os : Os) (H : Type) (enc : TypeId × Value → H) : ∃ places, DataW.whole enc Tryd.prog ((laidWorld os).forCall (fun _ _ => 0) ⟨#[], #[.slice none 0 0, .slice none 0 0], []⟩).memory Tryd.f3.params.toList Rows.provValuesSpec.vars false (#[.slice none 0 0, .slice none 0 0] : Array Value).toList 8 = some ([.nil, .nil], [], places) :=
  ⟨[], by kernel_rfl⟩

set_option maxRecDepth 100000 in
theorem lifted (os : Os) (started : os.Started) (H : Type) (enc : TypeId × Value → H) (F : Stop.Interp) :
    ReturnsInHanded {} Tryd.checked os 3 .any ((OpenSpec.ofChange Rows.provValuesSpec).preRow enc Tryd.prog Tryd.f3 Rows.provValuesRow.domain false Rows.provValuesRow.laid) (((OpenSpec.ofChange Rows.provValuesSpec).at F).post enc Tryd.prog Tryd.f3 false true false false) := by
  obtain ⟨places, hx⟩ := reads os H enc
  refine returnsInHanded_of_row (C := Tryd.checked) (s := OpenSpec.ofChange Rows.provValuesSpec) own started (by kernel_rfl) Tryd.func3
    (witness_row_at (enc := enc) (C := Tryd.checked) false (laidWorld os) #[.slice none 0 0, .slice none 0 0] rfl (by kernel_rfl) (by kernel_rfl) (by kernel_rfl)
      (OpenSpec.preRow_of_cond 8 hx (by kernel_rfl) (fun k hk => by cases hk) (by kernel_rfl) (met os))) ?_
  intro W base args ds gs before hval hW _ _ _ hL _ _
  exact contract H enc W base args ds gs before hval hW hL

theorem said : Rows.ProvValuesSaid :=
  OpenClaim.holds_of_cond 3 Tryd.f3 rfl rfl rfl rfl rfl rfl rfl ⟨rfl, rfl, rfl, rfl, rfl⟩ rfl rfl rfl rfl rfl (by kernel_rfl) Tryd.func3 (by kernel_rfl)
    (of_decide_eq_true (by kernel_rfl)) (by unfold Func.isWrapper; first | (rw [if_pos (by decide +kernel)]; kernel_rfl) | (rw [if_neg (by decide +kernel)]; exact ⟨rfl, rfl⟩))
    (fun os started H enc _ F => by rw [OpenClaim.pre_eq_preRow]; exact lifted os started H enc F)

set_option maxRecDepth 100000 in
theorem plain (f : FuncId) (fn : Func) (hf : Tryd.pinned.checked.prog.funcNamed Rows.provValuesRow.func = some f) (hfn : Tryd.pinned.checked.prog.funcs[f]? = some fn) :
    true = Tryd.pinned.checked.prog.looks [] ∧ ∀ (j : Nat) t, fn.params[j]? = some t → Tryd.pinned.checked.prog.wantsStandIn t = false := by
  obtain rfl : f = 3 := Option.some.inj ((show Tryd.prog.funcNamed Rows.provValuesRow.func = some 3 by kernel_rfl).symm.trans hf) |>.symm
  obtain rfl : fn = Tryd.f3 := (Option.some.inj (Tryd.func3.symm.trans hfn)).symm
  refine ⟨by kernel_rfl, fun j t ht => ?_⟩
  rw [Tryd.params3] at ht
  have hm : t ∈ (#[22, 23] : Array TypeId) := Array.mem_of_getElem? ht
  simp only [List.mem_toArray, List.mem_cons, List.not_mem_nil, or_false] at hm
  rcases hm with rfl | rfl
  all_goals first
    | exact (show Tryd.prog.wantsStandIn 22 = false by kernel_rfl)
    | exact (show Tryd.prog.wantsStandIn 23 = false by kernel_rfl)

/-- The statement. -/
theorem proved : Rows.ProvValuesCardSaid :=
  Claim7.holds_tied_plain_at .later [] _ _ _ _ said (fun _ h => by cases h) (by kernel_rfl) (fun _ h => by cases h) provValues_row_tie rfl ⟨rfl, rfl⟩ (by kernel_rfl) rfl plain (by kernel_rfl)
end Go.Proofs.YtehdemcfeoiecaaDoor.provValues
