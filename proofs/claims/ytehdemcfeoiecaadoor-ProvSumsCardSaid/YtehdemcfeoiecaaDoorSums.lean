/- Proved: ProvSums returns true at every input, and its arguments read afterwards as before, tied to the program's text. Conditions: none. -/
import Derived.Test.YtehdemcfeoiecaaDoorFra
import Derived.Test.YtehdemcfeoiecaaDoorV11
namespace Go.Proofs.YtehdemcfeoiecaaDoor.provSums
open Go.ChangeShapes Go.WideShapes Go.ChangeAt Go.RowKit Go.Firn

set_option maxHeartbeats 8000000 in
set_option maxRecDepth 100000 in
theorem walk (a : Option Addr) (n c : Nat) (f : Nat → ByteArray) (g : Nat → Int) (a' : Option Addr) (n' c' : Nat) (f' : Nat → ByteArray) (g' : Nat → Int) (w : World) (ha : SlA a n c) (hn : n ≤ 9223372036854775807) (hn' : n' ≤ 9223372036854775807)
    (hz : ∀ i, i < n → (f i).size ≤ 9223372036854775807) (hz' : ∀ i, i < n' → (f' i).size ≤ 9223372036854775807) (hr : RdS w a n f g) (hr' : RdS w a' n' f' g') :
    Calls Tryd.prog 4 #[.slice a n c, .slice a' n' c'] w (RetB true w) := by
  have L1 := Lib.hid (Long_any a n c f g w hn hr)
  have L2 := Lib.hid (fun w1 (k : Gr w w1) => Long_any a' n' c' f' g' w1 hn' (hr'.gr k))
  have C1 := Lib.hid (fun w1 (k : Gr w w1) => Plus_any a n c f g a' n' c' f' g' w1 hn hn' hz hz' (hr.gr k) (hr'.gr k))
  have C2 := Lib.hid (fun w1 (k : Gr w w1) => RefPlus_any a n c f g a' n' c' f' g' w1 ha hn hn' hz hz' (hr.gr k) (hr'.gr k))
  have C3 := Lib.hid (fun w1 (k : Gr w w1) => Times_any a n c f g a' n' c' f' g' w1 hn hn' hz hz' (hr.gr k) (hr'.gr k))
  have C4 := Lib.hid (fun w1 (k : Gr w w1) => RefTimes_any a n c f g a' n' c' f' g' w1 ha hn hn' hz hz' (hr.gr k) (hr'.gr k))
  have V1 := Lib.hid (fun w1 (k : Gr w w1) => ValidSum_any a n c f g w1 hn hz (hr.gr k))
  have V2 := Lib.hid (fun w1 (k : Gr w w1) => refValidSum_any a n c f g w1 hn hz (hr.gr k))
  clear hz hz' hr hr' ha
  generalize ansL (vS f g n && vS f' g' n') (plusL (ofS f g n) (ofS f' g' n')) = P at *
  generalize ansE (vS f g n && vS f' g' n') (plusL (ofS f g n) (ofS f' g' n')) = E at *
  generalize ansL (vS f g n && vS f' g' n') (timesL (ofS f g n) (ofS f' g' n')) = Q at *
  generalize ansE (vS f g n && vS f' g' n') (timesL (ofS f g n) (ofS f' g' n')) = F at *
  generalize vS f g n = vv at *
  generalize lgS f n = lg at *
  generalize lgS f' n' = lg' at *
  have z2 : (E == E) = true := by simp
  have z4 : (F == F) = true := by simp
  have z5 : (vv == vv) = true := by simp
  cases lg with
  | true =>
    go_enter Tryd.func4, Tryd.ntmps4
    go_wp2_with (first
      | (go_at_call 9; (with_reducible refine L1.out.mono ?_); rintro e w1 ⟨rfl, g1⟩; have G1 := Lib.hid g1; clear g1)
      | (go_at_call 10; refine (Awake_any _).mono ?_; rintro e w2 ⟨rfl, g2⟩; have G2 := Lib.hid (G1.out.trans g2); clear g2))
    go_ret
    exact ⟨rfl, G2.out⟩
  | false =>
    cases lg' with
    | true =>
      go_enter Tryd.func4, Tryd.ntmps4
      go_wp2_with (first
        | (go_at_call 9; (with_reducible refine L1.out.mono ?_); rintro e w1 ⟨rfl, g1⟩; have G1 := Lib.hid g1; clear g1 L1)
        | (go_at_call 9; (with_reducible refine (L2.out _ G1.out).mono ?_); rintro e w2 ⟨rfl, g2⟩; have G2 := Lib.hid (G1.out.trans g2); clear g2 L2)
        | (go_at_call 10; refine (Awake_any _).mono ?_; rintro e w3 ⟨rfl, g3⟩; have G3 := Lib.hid (G2.out.trans g3); clear g3))
      go_ret
      exact ⟨rfl, G3.out⟩
    | false =>
      go_enter Tryd.func4, Tryd.ntmps4
      go_wp2_with (first
        | (go_at_call 9; (with_reducible refine L1.out.mono ?_); rintro e w1 ⟨rfl, g1⟩; have G1 := Lib.hid g1; clear g1 L1)
        | (go_at_call 9; (with_reducible refine (L2.out _ G1.out).mono ?_); rintro e w2 ⟨rfl, g2⟩; have G2 := Lib.hid (G1.out.trans g2); clear g2 L2)
        | (go_at_call 15; (with_reducible refine (C1.out _ G2.out).mono ?_); rintro e w3 ⟨a3, c3, rfl, q1, q2, q3, g3⟩; have R3 := Lib.hid (And.intro (Nat.le_trans q1 q2) q3); have G3 := Lib.hid (G2.out.trans g3); clear g3 q1 q2 q3)
        | (go_at_call 16; (with_reducible refine (C2.out _ G3.out).mono ?_); rintro e w4 ⟨a4, c4, rfl, q1, q2, q3, g4⟩; have R4 := Lib.hid q3; have R3 := Lib.hid (And.intro R3.out.1 (R3.out.2.gr g4)); have G4 := Lib.hid (G3.out.trans g4); clear g4 q1 q2 q3)
        | (go_at_call 17; (with_reducible refine (C3.out _ G4.out).mono ?_); rintro e w5 ⟨a5, c5, rfl, q1, q2, q3, g5⟩; have R5 := Lib.hid (And.intro (Nat.le_trans q1 q2) q3); have R3 := Lib.hid (And.intro R3.out.1 (R3.out.2.gr g5)); have R4 := Lib.hid (R4.out.gr g5); have G5 := Lib.hid (G4.out.trans g5); clear g5 q1 q2 q3)
        | (go_at_call 18; (with_reducible refine (C4.out _ G5.out).mono ?_); rintro e w6 ⟨a6, c6, rfl, q1, q2, q3, g6⟩; have R6 := Lib.hid q3; have R3 := Lib.hid (And.intro R3.out.1 (R3.out.2.gr g6)); have R4 := Lib.hid (R4.out.gr g6); have R5 := Lib.hid (And.intro R5.out.1 (R5.out.2.gr g6)); have G6 := Lib.hid (G5.out.trans g6); clear g6 q1 q2 q3)
        | (go_at_call 19; (with_reducible refine (V1.out _ G6.out).mono ?_); rintro e w7 ⟨rfl, g7⟩; have G7 := Lib.hid g7; have GA := Lib.hid (G6.out.trans g7); clear g7)
        | (go_at_call 20; (with_reducible refine (V2.out _ GA.out).mono ?_); rintro e w8 ⟨rfl, g8⟩; have G8 := Lib.hid (G7.out.trans g8); have GB := Lib.hid (GA.out.trans g8); clear g8)
        | (go_at_call 21; have SA := Lib.hid (same_any a3 a4 P.length c3 c4 (sx P) (sy P) w8 (by have := R3.out.1; unfold maxLen at this; omega) (R3.out.2.gr G8.out) (R4.out.gr G8.out)); (with_reducible refine SA.out.mono ?_); rintro e w9 ⟨rfl, g9⟩; have G9 := Lib.hid (G8.out.trans g9); have GC := Lib.hid (GB.out.trans g9); clear g9)
        | (go_at_call 21; have SB := Lib.hid (same_any a5 a6 Q.length c5 c6 (sx Q) (sy Q) w9 (by have := R5.out.1; unfold maxLen at this; omega) (R5.out.2.gr G9.out) (R6.out.gr G9.out)); (with_reducible refine SB.out.mono ?_); rintro e w10 ⟨rfl, g10⟩; have GD := Lib.hid (GC.out.trans g10); clear g10)
        | (go_at_call 10; (with_reducible refine (Awake_any _).mono ?_); rintro e w11 ⟨rfl, g11⟩; have GE := Lib.hid (GD.out.trans g11); clear g11))
      go_ret
      exact ⟨rfl, GE.out⟩

set_option maxRecDepth 100000 in
theorem contract (H : Type) (enc : TypeId × Value → H) (W : World) (base : Nat) (args : Array Value) (ds gs : List (DataW H)) (before : List MemPlace)
    (hval0 : ∀ (j : Nat) t v, Tryd.f4.params[j]? = some t → args[j]? = some v → Value.okWide Tryd.prog W .any base t v)
    (hW : DataW.Whole enc Tryd.prog Tryd.f4.params.toList Rows.provSumsSpec.vars false W args.toList ds gs before) (_hL : laidMetH Tryd.prog Rows.provSumsRow.laid W) :
    Calls Tryd.prog 4 args W fun e W' => ∃ v, e = .returned v ∧ Rows.provSumsSpec.post enc Tryd.prog Tryd.f4 false true false false W args v W' := by
  have hval : ∀ (j : Nat) t v, Tryd.f4.params[j]? = some t → args[j]? = some v → Value.okWide Tryd.prog W .any base t v := hval0
  have hW' := hW
  obtain ⟨p, q, hA0, hV, rfl, hfz, hnd⟩ := hW
  have hA : DataW.TrodAll enc Tryd.prog W 0 (fun _ => true) true Tryd.f4.params.toList args.toList ds p := hA0
  rw [Tryd.params4] at hA hval
  obtain ⟨v0, vs0, d0, ds0, p0, q0, hargs, rfl, rfl, h0, r0⟩ := trodAll_cons hA
  obtain ⟨v1, vs1, d1, ds1, p1, q1, rfl, rfl, rfl, h1, r1⟩ := trodAll_cons r0
  obtain ⟨rfl, rfl, rfl⟩ := trodAll_nil r1
  obtain rfl : args = #[v0, v1] := by cases args; simp_all
  obtain ⟨rfl, rfl⟩ := trodVars_none hV
  obtain ⟨a0, len0, cap0, rfl⟩ := okWide_slice Tryd.underlying22 (hval 0 22 v0 rfl rfl)
  have k0 := h0
  have lt0 : ∀ x ∈ p0, x.block < W.heap.size := by obtain ⟨m, hm⟩ := k0; exact DataW.trod_lt m _ _ _ hm
  obtain ⟨x0, y0, wn0, wf0, wr0⟩ : ∃ (f : Nat → ByteArray) (g : Nat → Int), len0 ≤ 9223372036854775807 ∧ (∀ i, i < len0 → (f i).size ≤ 9223372036854775807 ∧ (Lit.int .i64 (g i)).wf = true) ∧ RdS W a0 len0 f g := by
    obtain ⟨fuel, hf⟩ := h0
    exact RdS.of_trod Tryd.underlying22 Tryd.underlying34 (by kernel_rfl) ⟨rfl, rfl⟩ ⟨rfl, rfl⟩ (by kernel_rfl) (by kernel_rfl) Tryd.underlying9 Tryd.underlying3 hf
  obtain ⟨a1, len1, cap1, rfl⟩ := okWide_slice Tryd.underlying22 (hval 1 22 v1 rfl rfl)
  have k1 := h1
  have lt1 : ∀ x ∈ p1, x.block < W.heap.size := by obtain ⟨m, hm⟩ := k1; exact DataW.trod_lt m _ _ _ hm
  obtain ⟨x1, y1, wn1, wf1, wr1⟩ : ∃ (f : Nat → ByteArray) (g : Nat → Int), len1 ≤ 9223372036854775807 ∧ (∀ i, i < len1 → (f i).size ≤ 9223372036854775807 ∧ (Lit.int .i64 (g i)).wf = true) ∧ RdS W a1 len1 f g := by
    obtain ⟨fuel, hf⟩ := h1
    exact RdS.of_trod Tryd.underlying22 Tryd.underlying34 (by kernel_rfl) ⟨rfl, rfl⟩ ⟨rfl, rfl⟩ (by kernel_rfl) (by kernel_rfl) Tryd.underlying9 Tryd.underlying3 hf
  have sl0 : SlA a0 len0 cap0 := by
    obtain ⟨fuel, hf⟩ := k0
    exact SlA.of_trod Tryd.underlying22 Tryd.underlying34 (by kernel_rfl) ⟨rfl, rfl⟩ ⟨rfl, rfl⟩ (by kernel_rfl) (by kernel_rfl) hf
  clear hA0 hval0
  refine (walk a0 len0 cap0 x0 y0 a1 len1 cap1 x1 y1 W sl0 wn0 wn1 (fun i hi => (wf0 i hi).1) (fun i hi => (wf1 i hi).1) wr0 wr1).mono fun e W' ⟨he, bel⟩ => ?_
  subst he
  exact ⟨_, rfl, _, _, _, [], _, [], hW', trodAll_mk1 (shut_bool Tryd.underlying4 _), (trodAll_cons_mk (Below.trod laidOut (by kernel_rfl) (of_decide_eq_true (by kernel_rfl)) k0 bel lt0) (trodAll_cons_mk (Below.trod laidOut (by kernel_rfl) (of_decide_eq_true (by kernel_rfl)) k1 bel lt1) trodAll_mk0)), rfl, bel.frame _, fun h => by cases h⟩

set_option maxRecDepth 100000 in
theorem met (os : Os) : laidMet Tryd.prog Rows.provSumsRow.laid ((laidWorld os).forCall (fun _ _ => 0) ⟨#[], #[.slice none 0 0, .slice none 0 0], []⟩).memory :=
  laidMet_of_run' 8 (by kernel_rfl) (by kernel_rfl)
set_option maxRecDepth 100000 in
theorem reads (os : Os) (H : Type) (enc : TypeId × Value → H) : ∃ places, DataW.whole enc Tryd.prog ((laidWorld os).forCall (fun _ _ => 0) ⟨#[], #[.slice none 0 0, .slice none 0 0], []⟩).memory Tryd.f4.params.toList Rows.provSumsSpec.vars false (#[.slice none 0 0, .slice none 0 0] : Array Value).toList 8 = some ([.nil, .nil], [], places) :=
  ⟨[], by kernel_rfl⟩

set_option maxRecDepth 100000 in
theorem lifted (os : Os) (started : os.Started) (H : Type) (enc : TypeId × Value → H) (F : Stop.Interp) :
    ReturnsInHanded {} Tryd.checked os 4 .any ((OpenSpec.ofChange Rows.provSumsSpec).preRow enc Tryd.prog Tryd.f4 Rows.provSumsRow.domain false Rows.provSumsRow.laid) (((OpenSpec.ofChange Rows.provSumsSpec).at F).post enc Tryd.prog Tryd.f4 false true false false) := by
  obtain ⟨places, hx⟩ := reads os H enc
  refine returnsInHanded_of_row (C := Tryd.checked) (s := OpenSpec.ofChange Rows.provSumsSpec) own started (by kernel_rfl) Tryd.func4
    (witness_row_at (enc := enc) (C := Tryd.checked) false (laidWorld os) #[.slice none 0 0, .slice none 0 0] rfl (by kernel_rfl) (by kernel_rfl) (by kernel_rfl)
      (OpenSpec.preRow_of_cond 8 hx (by kernel_rfl) (fun k hk => by cases hk) (by kernel_rfl) (met os))) ?_
  intro W base args ds gs before hval hW _ _ _ hL _ _
  exact contract H enc W base args ds gs before hval hW hL

theorem said : Rows.ProvSumsSaid :=
  OpenClaim.holds_of_cond 4 Tryd.f4 rfl rfl rfl rfl rfl rfl rfl ⟨rfl, rfl, rfl, rfl, rfl⟩ rfl rfl rfl rfl rfl (by kernel_rfl) Tryd.func4 (by kernel_rfl)
    (of_decide_eq_true (by kernel_rfl)) (by unfold Func.isWrapper; first | (rw [if_pos (by decide +kernel)]; kernel_rfl) | (rw [if_neg (by decide +kernel)]; exact ⟨rfl, rfl⟩))
    (fun os started H enc _ F => by rw [OpenClaim.pre_eq_preRow]; exact lifted os started H enc F)

set_option maxRecDepth 100000 in
theorem plain (f : FuncId) (fn : Func) (hf : Tryd.pinned.checked.prog.funcNamed Rows.provSumsRow.func = some f) (hfn : Tryd.pinned.checked.prog.funcs[f]? = some fn) :
    true = Tryd.pinned.checked.prog.looks [] ∧ ∀ (j : Nat) t, fn.params[j]? = some t → Tryd.pinned.checked.prog.wantsStandIn t = false := by
  obtain rfl : f = 4 := Option.some.inj ((show Tryd.prog.funcNamed Rows.provSumsRow.func = some 4 by kernel_rfl).symm.trans hf) |>.symm
  obtain rfl : fn = Tryd.f4 := (Option.some.inj (Tryd.func4.symm.trans hfn)).symm
  refine ⟨by kernel_rfl, fun j t ht => ?_⟩
  rw [Tryd.params4] at ht
  have hm : t ∈ (#[22, 22] : Array TypeId) := Array.mem_of_getElem? ht
  simp only [List.mem_toArray, List.mem_cons, List.not_mem_nil, or_false] at hm
  rcases hm with rfl | rfl
  all_goals first
    | exact (show Tryd.prog.wantsStandIn 22 = false by kernel_rfl)

/-- The statement. -/
theorem proved : Rows.ProvSumsCardSaid :=
  Claim7.holds_tied_plain_at .later [] _ _ _ _ said (fun _ h => by cases h) (by kernel_rfl) (fun _ h => by cases h) provSums_row_tie rfl ⟨rfl, rfl⟩ (by kernel_rfl) rfl plain (by kernel_rfl)
end Go.Proofs.YtehdemcfeoiecaaDoor.provSums
