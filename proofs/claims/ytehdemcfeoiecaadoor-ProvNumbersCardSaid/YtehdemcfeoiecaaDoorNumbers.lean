/- Proved: ProvNumbers returns true at every input, and its arguments read afterwards as before, tied to the program's text. Conditions: none. -/
import Derived.Test.YtehdemcfeoiecaaDoorNumbers0
namespace Go.Proofs.YtehdemcfeoiecaaDoor.provNumbers
open Go.ChangeShapes Go.WideShapes Go.ChangeAt Go.RowKit Go.Firn

/-- A slice of products as a list. -/
theorem rd_list {w : World} {a : Option Addr} {n : Nat} {f : Nat → ByteArray} {g : Nat → Int} (h : RdS w a n f g) : ∃ L : SL, L.length = n ∧ Rd w a L ∧ vS f g n = vL L :=
  ⟨ofS f g n, ofS_length f g n, by
    unfold Rd
    rw [ofS_length]
    exact h.congr fun i hi => ⟨(sx_ofS hi).1.symm, (sx_ofS hi).2.symm⟩, vL_of f g n⟩

set_option maxHeartbeats 8000000 in
set_option maxRecDepth 100000 in
theorem walk (a : Option Addr) (n c : Nat) (f : Nat → ByteArray) (g : Nat → Int) (a' : Option Addr) (n' c' : Nat) (f' : Nat → ByteArray) (g' : Nat → Int) (a3 : Option Addr) (n3 c3 : Nat) (l : Nat → Int) (a4 : Option Addr) (n4 c4 : Nat) (q : Nat → Int) (w : World)
    (hn : n ≤ 9223372036854775807) (hf : ∀ i, i < n → (f i).size ≤ 9223372036854775807 ∧ (Lit.int .i64 (g i)).wf = true) (hr : RdS w a n f g)
    (hn' : n' ≤ 9223372036854775807) (hf' : ∀ i, i < n' → (f' i).size ≤ 9223372036854775807 ∧ (Lit.int .i64 (g' i)).wf = true) (hr' : RdS w a' n' f' g')
    (hn3 : n3 ≤ 9223372036854775807) (_hc3 : n3 ≤ c3) (hl : RdI w a3 n3 l) (hn4 : n4 ≤ 9223372036854775807) (_hc4 : n4 ≤ c4) (hq : RdI w a4 n4 q) :
    Calls Tryd.prog 6 #[.slice a n c, .slice a' n' c', .slice a3 n3 c3, .slice a4 n4 c4] w (RetB true w) := by
  have D1 := Lib.hid (refValidSum_any a n c f g w hn (fun i hi => (hf i hi).1) hr)
  have D2 := Lib.hid (fun wx (k : Gr w wx) => refValidSum_any a' n' c' f' g' wx hn' (fun i hi => (hf' i hi).1) (hr'.gr k))
  have D3 := Lib.hid (fun wx (k : Gr w wx) => AreNumbers_any a3 n3 c3 l 10 wx hn3 (hl.gr k))
  have D4 := Lib.hid (fun wx (k : Gr w wx) => AreNumbers_any a4 n4 c4 q 1000 wx hn4 (hq.gr k))
  clear hf hf'
  obtain ⟨s, rfl, hs, e1⟩ := rd_list hr
  obtain ⟨t, rfl, ht, e2⟩ := rd_list hr'
  rw [e1] at D1
  rw [e2] at D2
  clear hr hr' e1 e2
  cases v1 : vL s with
  | false =>
    rw [v1] at D1
    clear D2 D3 D4 v1 hs ht hl hq
    go_enter Tryd.func6, Tryd.ntmps6
    go_wp2_with (first
      | (go_at_call 20; (with_reducible refine D1.out.mono ?_); rintro e w1 ⟨rfl, g1⟩; have G1 := Lib.hid g1; clear g1 D1)
      | (go_at_call 10; refine (Awake_any _).mono ?_; rintro e w9 ⟨rfl, g9⟩; have G9 := Lib.hid (G1.out.trans g9); clear g9))
    go_ret
    exact ⟨rfl, G9.out⟩
  | true =>
    rw [v1] at D1
    cases v2 : vL t with
    | false =>
      rw [v2] at D2
      clear D3 D4 v1 v2 hs ht hl hq
      go_enter Tryd.func6, Tryd.ntmps6
      go_wp2_with (first
        | (go_at_call 20; (with_reducible refine D1.out.mono ?_); rintro e w1 ⟨rfl, g1⟩; have G1 := Lib.hid g1; clear g1 D1)
        | (go_at_call 20; (with_reducible refine (D2.out _ G1.out).mono ?_); rintro e w2 ⟨rfl, g2⟩; have G2 := Lib.hid (G1.out.trans g2); clear g2 D2)
        | (go_at_call 10; refine (Awake_any _).mono ?_; rintro e w9 ⟨rfl, g9⟩; have G9 := Lib.hid (G2.out.trans g9); clear g9))
      go_ret
      exact ⟨rfl, G9.out⟩
    | true =>
      rw [v2] at D2
      cases v3 : nmB l n3 10 with
      | false =>
        rw [v3] at D3
        clear D4 v1 v2 v3 hs ht hl hq
        go_enter Tryd.func6, Tryd.ntmps6
        go_wp2_with (first
          | (go_at_call 20; (with_reducible refine D1.out.mono ?_); rintro e w1 ⟨rfl, g1⟩; have G1 := Lib.hid g1; clear g1 D1)
          | (go_at_call 20; (with_reducible refine (D2.out _ G1.out).mono ?_); rintro e w2 ⟨rfl, g2⟩; have G2 := Lib.hid (G1.out.trans g2); clear g2 D2)
          | (go_at_call 23; (with_reducible refine (D3.out _ G2.out).mono ?_); rintro e w3 ⟨rfl, g3⟩; have G3 := Lib.hid (G2.out.trans g3); clear g3 D3)
          | (go_at_call 10; refine (Awake_any _).mono ?_; rintro e w9 ⟨rfl, g9⟩; have G9 := Lib.hid (G3.out.trans g9); clear g9))
        go_ret
        exact ⟨rfl, G9.out⟩
      | true =>
        rw [v3] at D3
        cases v4 : nmB q n4 1000 with
        | false =>
          rw [v4] at D4
          clear v1 v2 v3 v4 hs ht hl hq
          go_enter Tryd.func6, Tryd.ntmps6
          go_wp2_with (first
            | (go_at_call 20; (with_reducible refine D1.out.mono ?_); rintro e w1 ⟨rfl, g1⟩; have G1 := Lib.hid g1; clear g1 D1)
            | (go_at_call 20; (with_reducible refine (D2.out _ G1.out).mono ?_); rintro e w2 ⟨rfl, g2⟩; have G2 := Lib.hid (G1.out.trans g2); clear g2 D2)
            | (go_at_call 23; (with_reducible refine (D3.out _ G2.out).mono ?_); rintro e w3 ⟨rfl, g3⟩; have G3 := Lib.hid (G2.out.trans g3); clear g3 D3)
            | (go_at_call 23; (with_reducible refine (D4.out _ G3.out).mono ?_); rintro e w4 ⟨rfl, g4⟩; have G4 := Lib.hid (G3.out.trans g4); clear g4 D4)
            | (go_at_call 10; refine (Awake_any _).mono ?_; rintro e w9 ⟨rfl, g9⟩; have G9 := Lib.hid (G4.out.trans g9); clear g9))
          go_ret
          exact ⟨rfl, G9.out⟩
        | true =>
          rw [v4] at D4
          exact walk_ok a a' a3 a4 c c' n3 c3 n4 c4 s t l q w v1 v2 v3 v4 hs ht hl hq

set_option maxRecDepth 100000 in
theorem contract (H : Type) (enc : TypeId × Value → H) (W : World) (base : Nat) (args : Array Value) (ds gs : List (DataW H)) (before : List MemPlace)
    (hval0 : ∀ (j : Nat) t v, Tryd.f6.params[j]? = some t → args[j]? = some v → Value.okWide Tryd.prog W .any base t v)
    (hW : DataW.Whole enc Tryd.prog Tryd.f6.params.toList Rows.provNumbersSpec.vars false W args.toList ds gs before) (_hL : laidMetH Tryd.prog Rows.provNumbersRow.laid W) :
    Calls Tryd.prog 6 args W fun e W' => ∃ v, e = .returned v ∧ Rows.provNumbersSpec.post enc Tryd.prog Tryd.f6 false true false false W args v W' := by
  have hval : ∀ (j : Nat) t v, Tryd.f6.params[j]? = some t → args[j]? = some v → Value.okWide Tryd.prog W .any base t v := hval0
  have hW' := hW
  obtain ⟨p, q, hA0, hV, rfl, hfz, hnd⟩ := hW
  have hA : DataW.TrodAll enc Tryd.prog W 0 (fun _ => true) true Tryd.f6.params.toList args.toList ds p := hA0
  rw [Tryd.params6] at hA hval
  obtain ⟨v0, vs0, d0, ds0, p0, q0, hargs, rfl, rfl, h0, r0⟩ := trodAll_cons hA
  obtain ⟨v1, vs1, d1, ds1, p1, q1, rfl, rfl, rfl, h1, r1⟩ := trodAll_cons r0
  obtain ⟨v2, vs2, d2, ds2, p2, q2, rfl, rfl, rfl, h2, r2⟩ := trodAll_cons r1
  obtain ⟨v3, vs3, d3, ds3, p3, q3, rfl, rfl, rfl, h3, r3⟩ := trodAll_cons r2
  obtain ⟨rfl, rfl, rfl⟩ := trodAll_nil r3
  obtain rfl : args = #[v0, v1, v2, v3] := by cases args; simp_all
  obtain ⟨rfl, rfl⟩ := trodVars_none hV
  obtain ⟨a0, len0, cap0, rfl⟩ := okWide_slice Tryd.underlying22 (hval 0 22 v0 rfl rfl)
  have k0 := h0
  have lt0 : ∀ x ∈ p0, x.block < W.heap.size := by obtain ⟨m, hm⟩ := k0; exact DataW.trod_lt m _ _ _ hm
  obtain ⟨x0, y0, wn0, wf0, wr0⟩ : ∃ (f : Nat → ByteArray) (g : Nat → Int), len0 ≤ 9223372036854775807 ∧ (∀ i, i < len0 → (f i).size ≤ 9223372036854775807 ∧ (Lit.int .i64 (g i)).wf = true) ∧ RdS W a0 len0 f g := by
    obtain ⟨fuel, hf⟩ := h0
    exact RdS.of_trod Tryd.underlying22 Tryd.underlying34 (by kernel_rfl) ⟨rfl, rfl⟩ ⟨rfl, rfl⟩ (by kernel_rfl) (by kernel_rfl) Tryd.underlying9 Tryd.underlying3 hf
  obtain ⟨a1, len1, cap1, rfl⟩ := okWide_slice Tryd.underlying22 (hval 1 22 v1 rfl rfl)
  have k1 := h1
  have lt1 : ∀ x ∈ p1, x.block < W.heap.size := by obtain ⟨m, hm⟩ := k1; exact DataW.trod_lt m _ _ _ hm
  obtain ⟨x1, y1, wn1, wf1, wr1⟩ : ∃ (f : Nat → ByteArray) (g : Nat → Int), len1 ≤ 9223372036854775807 ∧ (∀ i, i < len1 → (f i).size ≤ 9223372036854775807 ∧ (Lit.int .i64 (g i)).wf = true) ∧ RdS W a1 len1 f g := by
    obtain ⟨fuel, hf⟩ := h1
    exact RdS.of_trod Tryd.underlying22 Tryd.underlying34 (by kernel_rfl) ⟨rfl, rfl⟩ ⟨rfl, rfl⟩ (by kernel_rfl) (by kernel_rfl) Tryd.underlying9 Tryd.underlying3 hf
  obtain ⟨a2, len2, cap2, rfl⟩ := okWide_slice Tryd.underlying23 (hval 2 23 v2 rfl rfl)
  have k2 := h2
  have lt2 : ∀ x ∈ p2, x.block < W.heap.size := by obtain ⟨m, hm⟩ := k2; exact DataW.trod_lt m _ _ _ hm
  obtain ⟨z2, w2⟩ : ∃ zs, IsRow W a2 len2 cap2 zs := by
    obtain ⟨fuel, hf⟩ := h2
    rcases open_ints Tryd.underlying23 Tryd.underlying3 (by kernel_rfl) hf with ⟨hcs, _⟩ | ⟨x, l, c, zs, hcs, _, hl, hm, hz, _, hcell, hwz⟩
    · simp [Value.cells] at hcs
      obtain ⟨rfl, rfl, rfl⟩ := hcs
      exact ⟨[], .inl ⟨rfl, rfl, rfl, rfl⟩⟩
    · simp [Value.cells] at hcs
      obtain ⟨rfl, rfl, rfl⟩ := hcs
      exact ⟨zs, .inr ⟨_, rfl, hl, hm, by simpa using hz, hcell, hwz⟩⟩
  obtain ⟨a3, len3, cap3, rfl⟩ := okWide_slice Tryd.underlying23 (hval 3 23 v3 rfl rfl)
  have k3 := h3
  have lt3 : ∀ x ∈ p3, x.block < W.heap.size := by obtain ⟨m, hm⟩ := k3; exact DataW.trod_lt m _ _ _ hm
  obtain ⟨z3, w3⟩ : ∃ zs, IsRow W a3 len3 cap3 zs := by
    obtain ⟨fuel, hf⟩ := h3
    rcases open_ints Tryd.underlying23 Tryd.underlying3 (by kernel_rfl) hf with ⟨hcs, _⟩ | ⟨x, l, c, zs, hcs, _, hl, hm, hz, _, hcell, hwz⟩
    · simp [Value.cells] at hcs
      obtain ⟨rfl, rfl, rfl⟩ := hcs
      exact ⟨[], .inl ⟨rfl, rfl, rfl, rfl⟩⟩
    · simp [Value.cells] at hcs
      obtain ⟨rfl, rfl, rfl⟩ := hcs
      exact ⟨zs, .inr ⟨_, rfl, hl, hm, by simpa using hz, hcell, hwz⟩⟩
  clear hA0 hval0
  refine (walk a0 len0 cap0 x0 y0 a1 len1 cap1 x1 y1 a2 len2 cap2 _ a3 len3 cap3 _ W wn0 wf0 wr0 wn1 wf1 wr1 w2.rd.1 w2.cap w2.rd.2 w3.rd.1 w3.cap w3.rd.2).mono fun e W' ⟨he, bel⟩ => ?_
  subst he
  exact ⟨_, rfl, _, _, _, [], _, [], hW', trodAll_mk1 (shut_bool Tryd.underlying4 _), (trodAll_cons_mk (Below.trod laidOut (by kernel_rfl) (of_decide_eq_true (by kernel_rfl)) k0 bel lt0) (trodAll_cons_mk (Below.trod laidOut (by kernel_rfl) (of_decide_eq_true (by kernel_rfl)) k1 bel lt1) (trodAll_cons_mk (Below.trod laidOut (by kernel_rfl) (of_decide_eq_true (by kernel_rfl)) k2 bel lt2) (trodAll_cons_mk (Below.trod laidOut (by kernel_rfl) (of_decide_eq_true (by kernel_rfl)) k3 bel lt3) trodAll_mk0)))), rfl, bel.frame _, fun h => by cases h⟩

set_option maxRecDepth 100000 in
theorem met (os : Os) : laidMet Tryd.prog Rows.provNumbersRow.laid ((laidWorld os).forCall (fun _ _ => 0) ⟨#[], #[.slice none 0 0, .slice none 0 0, .slice none 0 0, .slice none 0 0], []⟩).memory :=
  laidMet_of_run' 8 (by kernel_rfl) (by kernel_rfl)
set_option maxRecDepth 100000 in
theorem reads (os : Os) (H : Type) (enc : TypeId × Value → H) : ∃ places, DataW.whole enc Tryd.prog ((laidWorld os).forCall (fun _ _ => 0) ⟨#[], #[.slice none 0 0, .slice none 0 0, .slice none 0 0, .slice none 0 0], []⟩).memory Tryd.f6.params.toList Rows.provNumbersSpec.vars false (#[.slice none 0 0, .slice none 0 0, .slice none 0 0, .slice none 0 0] : Array Value).toList 8 = some ([.nil, .nil, .nil, .nil], [], places) :=
  ⟨[], by kernel_rfl⟩

set_option maxRecDepth 100000 in
theorem lifted (os : Os) (started : os.Started) (H : Type) (enc : TypeId × Value → H) (F : Stop.Interp) :
    ReturnsInHanded {} Tryd.checked os 6 .any ((OpenSpec.ofChange Rows.provNumbersSpec).preRow enc Tryd.prog Tryd.f6 Rows.provNumbersRow.domain false Rows.provNumbersRow.laid) (((OpenSpec.ofChange Rows.provNumbersSpec).at F).post enc Tryd.prog Tryd.f6 false true false false) := by
  obtain ⟨places, hx⟩ := reads os H enc
  refine returnsInHanded_of_row (C := Tryd.checked) (s := OpenSpec.ofChange Rows.provNumbersSpec) own started (by kernel_rfl) Tryd.func6
    (witness_row_at (enc := enc) (C := Tryd.checked) false (laidWorld os) #[.slice none 0 0, .slice none 0 0, .slice none 0 0, .slice none 0 0] rfl (by kernel_rfl) (by kernel_rfl) (by kernel_rfl)
      (OpenSpec.preRow_of_cond 8 hx (by kernel_rfl) (fun k hk => by cases hk) (by kernel_rfl) (met os))) ?_
  intro W base args ds gs before hval hW _ _ _ hL _ _
  exact contract H enc W base args ds gs before hval hW hL

theorem said : Rows.ProvNumbersSaid :=
  OpenClaim.holds_of_cond 6 Tryd.f6 rfl rfl rfl rfl rfl rfl rfl ⟨rfl, rfl, rfl, rfl, rfl⟩ rfl rfl rfl rfl rfl (by kernel_rfl) Tryd.func6 (by kernel_rfl)
    (of_decide_eq_true (by kernel_rfl)) (by unfold Func.isWrapper; first | (rw [if_pos (by decide +kernel)]; kernel_rfl) | (rw [if_neg (by decide +kernel)]; exact ⟨rfl, rfl⟩))
    (fun os started H enc _ F => by rw [OpenClaim.pre_eq_preRow]; exact lifted os started H enc F)

set_option maxRecDepth 100000 in
theorem plain (f : FuncId) (fn : Func) (hf : Tryd.pinned.checked.prog.funcNamed Rows.provNumbersRow.func = some f) (hfn : Tryd.pinned.checked.prog.funcs[f]? = some fn) :
    true = Tryd.pinned.checked.prog.looks [] ∧ ∀ (j : Nat) t, fn.params[j]? = some t → Tryd.pinned.checked.prog.wantsStandIn t = false := by
  obtain rfl : f = 6 := Option.some.inj ((show Tryd.prog.funcNamed Rows.provNumbersRow.func = some 6 by kernel_rfl).symm.trans hf) |>.symm
  obtain rfl : fn = Tryd.f6 := (Option.some.inj (Tryd.func6.symm.trans hfn)).symm
  refine ⟨by kernel_rfl, fun j t ht => ?_⟩
  rw [Tryd.params6] at ht
  have hm : t ∈ (#[22, 22, 23, 23] : Array TypeId) := Array.mem_of_getElem? ht
  simp only [List.mem_toArray, List.mem_cons, List.not_mem_nil, or_false] at hm
  rcases hm with rfl | rfl | rfl | rfl
  all_goals first
    | exact (show Tryd.prog.wantsStandIn 22 = false by kernel_rfl)
    | exact (show Tryd.prog.wantsStandIn 23 = false by kernel_rfl)

/-- The statement. -/
theorem proved : Rows.ProvNumbersCardSaid :=
  Claim7.holds_tied_plain_at .later [] _ _ _ _ said (fun _ h => by cases h) (by kernel_rfl) (fun _ h => by cases h) provNumbers_row_tie rfl ⟨rfl, rfl⟩ (by kernel_rfl) rfl plain (by kernel_rfl)
end Go.Proofs.YtehdemcfeoiecaaDoor.provNumbers
