/- Proved: ProvRings returns true at every input, and its arguments read afterwards as before, tied to the program's text. Conditions: none. -/
import Derived.Test.YtehdemcfeoiecaaDoorRings0
namespace Go.Proofs.YtehdemcfeoiecaaDoor.provRings
open Go.ChangeShapes Go.WideShapes Go.ChangeAt Go.RowKit Go.Firn

/-- A slice of products as a list. -/
theorem rd_list {w : World} {a : Option Addr} {n : Nat} {f : Nat → ByteArray} {g : Nat → Int} (h : RdS w a n f g) : ∃ L : SL, L.length = n ∧ Rd w a L ∧ vS f g n = vL L :=
  ⟨ofS f g n, ofS_length f g n, by
    unfold Rd
    rw [ofS_length]
    exact h.congr fun i hi => ⟨(sx_ofS hi).1.symm, (sx_ofS hi).2.symm⟩, vL_of f g n⟩

set_option maxHeartbeats 8000000 in
set_option maxRecDepth 100000 in
theorem walk (a : Option Addr) (n c : Nat) (f : Nat → ByteArray) (g : Nat → Int) (a' : Option Addr) (n' c' : Nat) (f' : Nat → ByteArray) (g' : Nat → Int) (a2 : Option Addr) (n2 c2 : Nat) (f2 : Nat → ByteArray) (g2 : Nat → Int) (w : World)
    (hn : n ≤ 9223372036854775807) (hf : ∀ i, i < n → (f i).size ≤ 9223372036854775807 ∧ (Lit.int .i64 (g i)).wf = true) (hr : RdS w a n f g)
    (hn' : n' ≤ 9223372036854775807) (hf' : ∀ i, i < n' → (f' i).size ≤ 9223372036854775807 ∧ (Lit.int .i64 (g' i)).wf = true) (hr' : RdS w a' n' f' g')
    (hn2 : n2 ≤ 9223372036854775807) (hf2 : ∀ i, i < n2 → (f2 i).size ≤ 9223372036854775807 ∧ (Lit.int .i64 (g2 i)).wf = true) (hr2 : RdS w a2 n2 f2 g2) :
    Calls Tryd.prog 5 #[.slice a n c, .slice a' n' c', .slice a2 n2 c2] w (RetB true w) := by
  have D1 := Lib.hid (refValidSum_any a n c f g w hn (fun i hi => (hf i hi).1) hr)
  have D2 := Lib.hid (fun wx (k : Gr w wx) => refValidSum_any a' n' c' f' g' wx hn' (fun i hi => (hf' i hi).1) (hr'.gr k))
  have D3 := Lib.hid (fun wx (k : Gr w wx) => refValidSum_any a2 n2 c2 f2 g2 wx hn2 (fun i hi => (hf2 i hi).1) (hr2.gr k))
  clear hf hf' hf2
  obtain ⟨s, rfl, hs, e1⟩ := rd_list hr
  obtain ⟨t, rfl, ht, e2⟩ := rd_list hr'
  obtain ⟨u, rfl, hu, e3⟩ := rd_list hr2
  rw [e1] at D1
  rw [e2] at D2
  rw [e3] at D3
  clear hr hr' hr2 e1 e2 e3
  cases v1 : vL s with
  | false =>
    rw [v1] at D1
    clear D2 D3 v1 hs ht hu
    go_enter Tryd.func5, Tryd.ntmps5
    go_wp2_with (first
      | (go_at_call 20; (with_reducible refine D1.out.mono ?_); rintro e w1 ⟨rfl, g1⟩; have G1 := Lib.hid g1; clear g1)
      | (go_at_call 10; refine (Awake_any _).mono ?_; rintro e w2 ⟨rfl, g2⟩; have G2 := Lib.hid (G1.out.trans g2); clear g2))
    go_ret
    exact ⟨rfl, G2.out⟩
  | true =>
    rw [v1] at D1
    cases v2 : vL t with
    | false =>
      rw [v2] at D2
      clear D3 v1 v2 hs ht hu
      go_enter Tryd.func5, Tryd.ntmps5
      go_wp2_with (first
        | (go_at_call 20; (with_reducible refine D1.out.mono ?_); rintro e w1 ⟨rfl, g1⟩; have G1 := Lib.hid g1; clear g1 D1)
        | (go_at_call 20; (with_reducible refine (D2.out _ G1.out).mono ?_); rintro e w2 ⟨rfl, g2⟩; have G2 := Lib.hid (G1.out.trans g2); clear g2 D2)
        | (go_at_call 10; refine (Awake_any _).mono ?_; rintro e w3 ⟨rfl, g3⟩; have G3 := Lib.hid (G2.out.trans g3); clear g3))
      go_ret
      exact ⟨rfl, G3.out⟩
    | true =>
      rw [v2] at D2
      cases v3 : vL u with
      | false =>
        rw [v3] at D3
        clear v1 v2 v3 hs ht hu
        go_enter Tryd.func5, Tryd.ntmps5
        go_wp2_with (first
          | (go_at_call 20; (with_reducible refine D1.out.mono ?_); rintro e w1 ⟨rfl, g1⟩; have G1 := Lib.hid g1; clear g1 D1)
          | (go_at_call 20; (with_reducible refine (D2.out _ G1.out).mono ?_); rintro e w2 ⟨rfl, g2⟩; have G2 := Lib.hid (G1.out.trans g2); clear g2 D2)
          | (go_at_call 20; (with_reducible refine (D3.out _ G2.out).mono ?_); rintro e w3 ⟨rfl, g3⟩; have G3 := Lib.hid (G2.out.trans g3); clear g3 D3)
          | (go_at_call 10; refine (Awake_any _).mono ?_; rintro e w4 ⟨rfl, g4⟩; have G4 := Lib.hid (G3.out.trans g4); clear g4))
        go_ret
        exact ⟨rfl, G4.out⟩
      | true => exact walk_ok a a' a2 c c' c2 s t u w v1 v2 v3 hs ht hu

set_option maxRecDepth 100000 in
theorem contract (H : Type) (enc : TypeId × Value → H) (W : World) (base : Nat) (args : Array Value) (ds gs : List (DataW H)) (before : List MemPlace)
    (hval0 : ∀ (j : Nat) t v, Tryd.f5.params[j]? = some t → args[j]? = some v → Value.okWide Tryd.prog W .any base t v)
    (hW : DataW.Whole enc Tryd.prog Tryd.f5.params.toList Rows.provRingsSpec.vars false W args.toList ds gs before) (_hL : laidMetH Tryd.prog Rows.provRingsRow.laid W) :
    Calls Tryd.prog 5 args W fun e W' => ∃ v, e = .returned v ∧ Rows.provRingsSpec.post enc Tryd.prog Tryd.f5 false true false false W args v W' := by
  have hval : ∀ (j : Nat) t v, Tryd.f5.params[j]? = some t → args[j]? = some v → Value.okWide Tryd.prog W .any base t v := hval0
  have hW' := hW
  obtain ⟨p, q, hA0, hV, rfl, hfz, hnd⟩ := hW
  have hA : DataW.TrodAll enc Tryd.prog W 0 (fun _ => true) true Tryd.f5.params.toList args.toList ds p := hA0
  rw [Tryd.params5] at hA hval
  obtain ⟨v0, vs0, d0, ds0, p0, q0, hargs, rfl, rfl, h0, r0⟩ := trodAll_cons hA
  obtain ⟨v1, vs1, d1, ds1, p1, q1, rfl, rfl, rfl, h1, r1⟩ := trodAll_cons r0
  obtain ⟨v2, vs2, d2, ds2, p2, q2, rfl, rfl, rfl, h2, r2⟩ := trodAll_cons r1
  obtain ⟨rfl, rfl, rfl⟩ := trodAll_nil r2
  obtain rfl : args = #[v0, v1, v2] := by cases args; simp_all
  obtain ⟨rfl, rfl⟩ := trodVars_none hV
  obtain ⟨a0, len0, cap0, rfl⟩ := okWide_slice Tryd.underlying22 (hval 0 22 v0 rfl rfl)
  have k0 := h0
  have lt0 : ∀ x ∈ p0, x.block < W.heap.size := by obtain ⟨m, hm⟩ := k0; exact DataW.trod_lt m _ _ _ hm
  obtain ⟨x0, y0, wn0, wf0, wr0⟩ : ∃ (f : Nat → ByteArray) (g : Nat → Int), len0 ≤ 9223372036854775807 ∧ (∀ i, i < len0 → (f i).size ≤ 9223372036854775807 ∧ (Lit.int .i64 (g i)).wf = true) ∧ RdS W a0 len0 f g := by
    obtain ⟨fuel, hf⟩ := h0
    exact RdS.of_trod Tryd.underlying22 Tryd.underlying34 (by kernel_rfl) ⟨rfl, rfl⟩ ⟨rfl, rfl⟩ (by kernel_rfl) (by kernel_rfl) Tryd.underlying9 Tryd.underlying3 hf
  obtain ⟨a1, len1, cap1, rfl⟩ := okWide_slice Tryd.underlying22 (hval 1 22 v1 rfl rfl)
  have k1 := h1
  have lt1 : ∀ x ∈ p1, x.block < W.heap.size := by obtain ⟨m, hm⟩ := k1; exact DataW.trod_lt m _ _ _ hm
  obtain ⟨x1, y1, wn1, wf1, wr1⟩ : ∃ (f : Nat → ByteArray) (g : Nat → Int), len1 ≤ 9223372036854775807 ∧ (∀ i, i < len1 → (f i).size ≤ 9223372036854775807 ∧ (Lit.int .i64 (g i)).wf = true) ∧ RdS W a1 len1 f g := by
    obtain ⟨fuel, hf⟩ := h1
    exact RdS.of_trod Tryd.underlying22 Tryd.underlying34 (by kernel_rfl) ⟨rfl, rfl⟩ ⟨rfl, rfl⟩ (by kernel_rfl) (by kernel_rfl) Tryd.underlying9 Tryd.underlying3 hf
  obtain ⟨a2, len2, cap2, rfl⟩ := okWide_slice Tryd.underlying22 (hval 2 22 v2 rfl rfl)
  have k2 := h2
  have lt2 : ∀ x ∈ p2, x.block < W.heap.size := by obtain ⟨m, hm⟩ := k2; exact DataW.trod_lt m _ _ _ hm
  obtain ⟨x2, y2, wn2, wf2, wr2⟩ : ∃ (f : Nat → ByteArray) (g : Nat → Int), len2 ≤ 9223372036854775807 ∧ (∀ i, i < len2 → (f i).size ≤ 9223372036854775807 ∧ (Lit.int .i64 (g i)).wf = true) ∧ RdS W a2 len2 f g := by
    obtain ⟨fuel, hf⟩ := h2
    exact RdS.of_trod Tryd.underlying22 Tryd.underlying34 (by kernel_rfl) ⟨rfl, rfl⟩ ⟨rfl, rfl⟩ (by kernel_rfl) (by kernel_rfl) Tryd.underlying9 Tryd.underlying3 hf
  clear hA0 hval0
  refine (walk a0 len0 cap0 x0 y0 a1 len1 cap1 x1 y1 a2 len2 cap2 x2 y2 W wn0 wf0 wr0 wn1 wf1 wr1 wn2 wf2 wr2).mono fun e W' ⟨he, bel⟩ => ?_
  subst he
  exact ⟨_, rfl, _, _, _, [], _, [], hW', trodAll_mk1 (shut_bool Tryd.underlying4 _), (trodAll_cons_mk (Below.trod laidOut (by kernel_rfl) (of_decide_eq_true (by kernel_rfl)) k0 bel lt0) (trodAll_cons_mk (Below.trod laidOut (by kernel_rfl) (of_decide_eq_true (by kernel_rfl)) k1 bel lt1) (trodAll_cons_mk (Below.trod laidOut (by kernel_rfl) (of_decide_eq_true (by kernel_rfl)) k2 bel lt2) trodAll_mk0))), rfl, bel.frame _, fun h => by cases h⟩

set_option maxRecDepth 100000 in
theorem met (os : Os) : laidMet Tryd.prog Rows.provRingsRow.laid ((laidWorld os).forCall (fun _ _ => 0) ⟨#[], #[.slice none 0 0, .slice none 0 0, .slice none 0 0], []⟩).memory :=
  laidMet_of_run' 8 (by kernel_rfl) (by kernel_rfl)
set_option maxRecDepth 100000 in
theorem reads (os : Os) (H : Type) (enc : TypeId × Value → H) : ∃ places, DataW.whole enc Tryd.prog ((laidWorld os).forCall (fun _ _ => 0) ⟨#[], #[.slice none 0 0, .slice none 0 0, .slice none 0 0], []⟩).memory Tryd.f5.params.toList Rows.provRingsSpec.vars false (#[.slice none 0 0, .slice none 0 0, .slice none 0 0] : Array Value).toList 8 = some ([.nil, .nil, .nil], [], places) :=
  ⟨[], by kernel_rfl⟩

set_option maxRecDepth 100000 in
theorem lifted (os : Os) (started : os.Started) (H : Type) (enc : TypeId × Value → H) (F : Stop.Interp) :
    ReturnsInHanded {} Tryd.checked os 5 .any ((OpenSpec.ofChange Rows.provRingsSpec).preRow enc Tryd.prog Tryd.f5 Rows.provRingsRow.domain false Rows.provRingsRow.laid) (((OpenSpec.ofChange Rows.provRingsSpec).at F).post enc Tryd.prog Tryd.f5 false true false false) := by
  obtain ⟨places, hx⟩ := reads os H enc
  refine returnsInHanded_of_row (C := Tryd.checked) (s := OpenSpec.ofChange Rows.provRingsSpec) own started (by kernel_rfl) Tryd.func5
    (witness_row_at (enc := enc) (C := Tryd.checked) false (laidWorld os) #[.slice none 0 0, .slice none 0 0, .slice none 0 0] rfl (by kernel_rfl) (by kernel_rfl) (by kernel_rfl)
      (OpenSpec.preRow_of_cond 8 hx (by kernel_rfl) (fun k hk => by cases hk) (by kernel_rfl) (met os))) ?_
  intro W base args ds gs before hval hW _ _ _ hL _ _
  exact contract H enc W base args ds gs before hval hW hL

theorem said : Rows.ProvRingsSaid :=
  OpenClaim.holds_of_cond 5 Tryd.f5 rfl rfl rfl rfl rfl rfl rfl ⟨rfl, rfl, rfl, rfl, rfl⟩ rfl rfl rfl rfl rfl (by kernel_rfl) Tryd.func5 (by kernel_rfl)
    (of_decide_eq_true (by kernel_rfl)) (by unfold Func.isWrapper; first | (rw [if_pos (by decide +kernel)]; kernel_rfl) | (rw [if_neg (by decide +kernel)]; exact ⟨rfl, rfl⟩))
    (fun os started H enc _ F => by rw [OpenClaim.pre_eq_preRow]; exact lifted os started H enc F)

set_option maxRecDepth 100000 in
theorem plain (f : FuncId) (fn : Func) (hf : Tryd.pinned.checked.prog.funcNamed Rows.provRingsRow.func = some f) (hfn : Tryd.pinned.checked.prog.funcs[f]? = some fn) :
    true = Tryd.pinned.checked.prog.looks [] ∧ ∀ (j : Nat) t, fn.params[j]? = some t → Tryd.pinned.checked.prog.wantsStandIn t = false := by
  obtain rfl : f = 5 := Option.some.inj ((show Tryd.prog.funcNamed Rows.provRingsRow.func = some 5 by kernel_rfl).symm.trans hf) |>.symm
  obtain rfl : fn = Tryd.f5 := (Option.some.inj (Tryd.func5.symm.trans hfn)).symm
  refine ⟨by kernel_rfl, fun j t ht => ?_⟩
  rw [Tryd.params5] at ht
  have hm : t ∈ (#[22, 22, 22] : Array TypeId) := Array.mem_of_getElem? ht
  simp only [List.mem_toArray, List.mem_cons, List.not_mem_nil, or_false] at hm
  rcases hm with rfl | rfl | rfl
  all_goals first
    | exact (show Tryd.prog.wantsStandIn 22 = false by kernel_rfl)

/-- The statement. -/
theorem proved : Rows.ProvRingsCardSaid :=
  Claim7.holds_tied_plain_at .later [] _ _ _ _ said (fun _ h => by cases h) (by kernel_rfl) (fun _ h => by cases h) provRings_row_tie rfl ⟨rfl, rfl⟩ (by kernel_rfl) rfl plain (by kernel_rfl)
end Go.Proofs.YtehdemcfeoiecaaDoor.provRings
