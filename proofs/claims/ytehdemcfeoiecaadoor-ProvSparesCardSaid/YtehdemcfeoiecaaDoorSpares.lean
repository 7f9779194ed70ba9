/- Proved: ProvSpares returns true at every input, and its arguments read afterwards as before, tied to the program's text. Conditions: none. -/
import Derived.Test.YtehdemcfeoiecaaDoorSpares0
namespace Go.Proofs.YtehdemcfeoiecaaDoor.provSpares
open Go.ChangeShapes Go.WideShapes Go.ChangeAt Go.RowKit Go.Firn

/-- A slice of products as a list. -/
theorem rd_list {w : World} {a : Option Addr} {n : Nat} {f : Nat → ByteArray} {g : Nat → Int} (h : RdS w a n f g) : ∃ L : SL, L.length = n ∧ Rd w a L ∧ vS f g n = vL L :=
  ⟨ofS f g n, ofS_length f g n, by
    unfold Rd
    rw [ofS_length]
    exact h.congr fun i hi => ⟨(sx_ofS hi).1.symm, (sx_ofS hi).2.symm⟩, vL_of f g n⟩

set_option maxHeartbeats 8000000 in
set_option maxRecDepth 100000 in
theorem walk (a : Option Addr) (n c : Nat) (f : Nat → ByteArray) (g : Nat → Int) (x : Int) (a3 : Option Addr) (n3 c3 : Nat) (l : Nat → Int) (w : World)
    (hn : n ≤ 9223372036854775807) (hf : ∀ i, i < n → (f i).size ≤ 9223372036854775807 ∧ (Lit.int .i64 (g i)).wf = true) (hr : RdS w a n f g)
    (hx : (Lit.int .u8 x).wf = true) (hn3 : n3 ≤ 9223372036854775807) (_hc3 : n3 ≤ c3) (hl : RdI w a3 n3 l) (ha : SlA a n c) :
    Calls Tryd.prog 7 #[.slice a n c, .int .u8 x, .slice a3 n3 c3] w (RetB true w) := by
  have D1 := Lib.hid (refValidSum_any a n c f g w hn (fun i hi => (hf i hi).1) hr)
  have D2 := Lib.hid (fun wx (k : Gr w wx) => AreNumbers_any a3 n3 c3 l 10 wx hn3 (hl.gr k))
  clear hf
  obtain ⟨s, rfl, hs, e1⟩ := rd_list hr
  rw [e1] at D1
  clear hr e1
  cases v1 : vL s with
  | false =>
    rw [v1] at D1
    clear D2 v1 hs hl ha hx
    go_enter Tryd.func7, Tryd.ntmps7
    go_wp2_with (first
      | (go_at_call 20; (with_reducible refine D1.out.mono ?_); rintro e w1 ⟨rfl, g1⟩; have G1 := Lib.hid g1; clear g1)
      | (go_at_call 10; refine (Awake_any _).mono ?_; rintro e w2 ⟨rfl, g2⟩; have G2 := Lib.hid (G1.out.trans g2); clear g2))
    go_ret
    exact ⟨rfl, G2.out⟩
  | true =>
    rw [v1] at D1
    cases v2 : nmB l n3 10 with
    | false =>
      rw [v2] at D2
      clear v1 v2 hs hl ha hx
      go_enter Tryd.func7, Tryd.ntmps7
      go_wp2_with (first
        | (go_at_call 20; (with_reducible refine D1.out.mono ?_); rintro e w1 ⟨rfl, g1⟩; have G1 := Lib.hid g1; clear g1 D1)
        | (go_at_call 23; (with_reducible refine (D2.out _ G1.out).mono ?_); rintro e w2 ⟨rfl, g2⟩; have G2 := Lib.hid (G1.out.trans g2); clear g2 D2)
        | (go_at_call 10; refine (Awake_any _).mono ?_; rintro e w3 ⟨rfl, g3⟩; have G3 := Lib.hid (G2.out.trans g3); clear g3))
      go_ret
      exact ⟨rfl, G3.out⟩
    | true =>
      obtain ⟨rfl, _⟩ := nmB_at v2
      have hx2 : 0 ≤ x ∧ x ≤ 255 := by
        unfold Lit.wf at hx
        simp [IntKind.min, IntKind.max, IntKind.signed, IntKind.bits] at hx
        omega
      have e : x.tmod 8 = ((x.tmod 8).toNat : Int) := by rw [Int.tmod_eq_emod_of_nonneg hx2.1]; omega
      exact walk_ok a a3 c c3 s x (x.tmod 8).toNat l w v1 v2 ha hs hl (by rw [Int.tmod_eq_emod_of_nonneg hx2.1] at e ⊢; omega) e hx2.1 hx2.2

set_option maxRecDepth 100000 in
theorem contract (H : Type) (enc : TypeId × Value → H) (W : World) (base : Nat) (args : Array Value) (ds gs : List (DataW H)) (before : List MemPlace)
    (hval0 : ∀ (j : Nat) t v, Tryd.f7.params[j]? = some t → args[j]? = some v → Value.okWide Tryd.prog W .any base t v)
    (hW : DataW.Whole enc Tryd.prog Tryd.f7.params.toList Rows.provSparesSpec.vars false W args.toList ds gs before) (_hL : laidMetH Tryd.prog Rows.provSparesRow.laid W) :
    Calls Tryd.prog 7 args W fun e W' => ∃ v, e = .returned v ∧ Rows.provSparesSpec.post enc Tryd.prog Tryd.f7 false true false false W args v W' := by
  have hval : ∀ (j : Nat) t v, Tryd.f7.params[j]? = some t → args[j]? = some v → Value.okWide Tryd.prog W .any base t v := hval0
  have hW' := hW
  obtain ⟨p, q, hA0, hV, rfl, hfz, hnd⟩ := hW
  have hA : DataW.TrodAll enc Tryd.prog W 0 (fun _ => true) true Tryd.f7.params.toList args.toList ds p := hA0
  rw [Tryd.params7] at hA hval
  obtain ⟨v0, vs0, d0, ds0, p0, q0, hargs, rfl, rfl, h0, r0⟩ := trodAll_cons hA
  obtain ⟨v1, vs1, d1, ds1, p1, q1, rfl, rfl, rfl, h1, r1⟩ := trodAll_cons r0
  obtain ⟨v2, vs2, d2, ds2, p2, q2, rfl, rfl, rfl, h2, r2⟩ := trodAll_cons r1
  obtain ⟨rfl, rfl, rfl⟩ := trodAll_nil r2
  obtain rfl : args = #[v0, v1, v2] := by cases args; simp_all
  obtain ⟨rfl, rfl⟩ := trodVars_none hV
  obtain ⟨a0, len0, cap0, rfl⟩ := okWide_slice Tryd.underlying22 (hval 0 22 v0 rfl rfl)
  have k0 := h0
  have lt0 : ∀ x ∈ p0, x.block < W.heap.size := by obtain ⟨m, hm⟩ := k0; exact DataW.trod_lt m _ _ _ hm
  obtain ⟨x0, y0, wn0, wf0, wr0⟩ : ∃ (f : Nat → ByteArray) (g : Nat → Int), len0 ≤ 9223372036854775807 ∧ (∀ i, i < len0 → (f i).size ≤ 9223372036854775807 ∧ (Lit.int .i64 (g i)).wf = true) ∧ RdS W a0 len0 f g := by
    obtain ⟨fuel, hf⟩ := h0
    exact RdS.of_trod Tryd.underlying22 Tryd.underlying34 (by kernel_rfl) ⟨rfl, rfl⟩ ⟨rfl, rfl⟩ (by kernel_rfl) (by kernel_rfl) Tryd.underlying9 Tryd.underlying3 hf
  obtain ⟨a1, rfl, rfl, rfl, w1⟩ := open_int Tryd.underlying5 (hval 1 5 v1 rfl rfl) h1
  obtain ⟨a2, len2, cap2, rfl⟩ := okWide_slice Tryd.underlying23 (hval 2 23 v2 rfl rfl)
  have k2 := h2
  have lt2 : ∀ x ∈ p2, x.block < W.heap.size := by obtain ⟨m, hm⟩ := k2; exact DataW.trod_lt m _ _ _ hm
  obtain ⟨z2, w2⟩ : ∃ zs, IsRow W a2 len2 cap2 zs := by
    obtain ⟨fuel, hf⟩ := h2
    rcases open_ints Tryd.underlying23 Tryd.underlying3 (by kernel_rfl) hf with ⟨hcs, _⟩ | ⟨x, l, c, zs, hcs, _, hl, hm, hz, _, hcell, hwz⟩
    · simp [Value.cells] at hcs
      obtain ⟨rfl, rfl, rfl⟩ := hcs
      exact ⟨[], .inl ⟨rfl, rfl, rfl, rfl⟩⟩
    · simp [Value.cells] at hcs
      obtain ⟨rfl, rfl, rfl⟩ := hcs
      exact ⟨zs, .inr ⟨_, rfl, hl, hm, by simpa using hz, hcell, hwz⟩⟩
  have sl0 : SlA a0 len0 cap0 := by
    obtain ⟨fuel, hf⟩ := k0
    exact SlA.of_trod Tryd.underlying22 Tryd.underlying34 (by kernel_rfl) ⟨rfl, rfl⟩ ⟨rfl, rfl⟩ (by kernel_rfl) (by kernel_rfl) hf
  clear hA0 hval0
  refine (walk a0 len0 cap0 x0 y0 a1 a2 len2 cap2 _ W wn0 wf0 wr0 w1 w2.rd.1 w2.cap w2.rd.2 sl0).mono fun e W' ⟨he, bel⟩ => ?_
  subst he
  exact ⟨_, rfl, _, _, _, [], _, [], hW', trodAll_mk1 (shut_bool Tryd.underlying4 _), (trodAll_cons_mk (Below.trod laidOut (by kernel_rfl) (of_decide_eq_true (by kernel_rfl)) k0 bel lt0) (trodAll_cons_mk (shut_int Tryd.underlying5 w1) (trodAll_cons_mk (Below.trod laidOut (by kernel_rfl) (of_decide_eq_true (by kernel_rfl)) k2 bel lt2) trodAll_mk0))), rfl, bel.frame _, fun h => by cases h⟩

set_option maxRecDepth 100000 in
theorem met (os : Os) : laidMet Tryd.prog Rows.provSparesRow.laid ((laidWorld os).forCall (fun _ _ => 0) ⟨#[], #[.slice none 0 0, .int .u8 0, .slice none 0 0], []⟩).memory :=
  laidMet_of_run' 8 (by kernel_rfl) (by kernel_rfl)
set_option maxRecDepth 100000 in
theorem reads (os : Os) (H : Type) (enc : TypeId × Value → H) : ∃ places, DataW.whole enc Tryd.prog ((laidWorld os).forCall (fun _ _ => 0) ⟨#[], #[.slice none 0 0, .int .u8 0, .slice none 0 0], []⟩).memory Tryd.f7.params.toList Rows.provSparesSpec.vars false (#[.slice none 0 0, .int .u8 0, .slice none 0 0] : Array Value).toList 8 = some ([.nil, .lit (.int .u8 0), .nil], [], places) :=
  ⟨[], by kernel_rfl⟩

set_option maxRecDepth 100000 in
theorem lifted (os : Os) (started : os.Started) (H : Type) (enc : TypeId × Value → H) (F : Stop.Interp) :
    ReturnsInHanded {} Tryd.checked os 7 .any ((OpenSpec.ofChange Rows.provSparesSpec).preRow enc Tryd.prog Tryd.f7 Rows.provSparesRow.domain false Rows.provSparesRow.laid) (((OpenSpec.ofChange Rows.provSparesSpec).at F).post enc Tryd.prog Tryd.f7 false true false false) := by
  obtain ⟨places, hx⟩ := reads os H enc
  refine returnsInHanded_of_row (C := Tryd.checked) (s := OpenSpec.ofChange Rows.provSparesSpec) own started (by kernel_rfl) Tryd.func7
    (witness_row_at (enc := enc) (C := Tryd.checked) false (laidWorld os) #[.slice none 0 0, .int .u8 0, .slice none 0 0] rfl (by kernel_rfl) (by kernel_rfl) (by kernel_rfl)
      (OpenSpec.preRow_of_cond 8 hx (by kernel_rfl) (fun k hk => by cases hk) (by kernel_rfl) (met os))) ?_
  intro W base args ds gs before hval hW _ _ _ hL _ _
  exact contract H enc W base args ds gs before hval hW hL

theorem said : Rows.ProvSparesSaid :=
  OpenClaim.holds_of_cond 7 Tryd.f7 rfl rfl rfl rfl rfl rfl rfl ⟨rfl, rfl, rfl, rfl, rfl⟩ rfl rfl rfl rfl rfl (by kernel_rfl) Tryd.func7 (by kernel_rfl)
    (of_decide_eq_true (by kernel_rfl)) (by unfold Func.isWrapper; first | (rw [if_pos (by decide +kernel)]; kernel_rfl) | (rw [if_neg (by decide +kernel)]; exact ⟨rfl, rfl⟩))
    (fun os started H enc _ F => by rw [OpenClaim.pre_eq_preRow]; exact lifted os started H enc F)

set_option maxRecDepth 100000 in
theorem plain (f : FuncId) (fn : Func) (hf : Tryd.pinned.checked.prog.funcNamed Rows.provSparesRow.func = some f) (hfn : Tryd.pinned.checked.prog.funcs[f]? = some fn) :
    true = Tryd.pinned.checked.prog.looks [] ∧ ∀ (j : Nat) t, fn.params[j]? = some t → Tryd.pinned.checked.prog.wantsStandIn t = false := by
  obtain rfl : f = 7 := Option.some.inj ((show Tryd.prog.funcNamed Rows.provSparesRow.func = some 7 by kernel_rfl).symm.trans hf) |>.symm
  obtain rfl : fn = Tryd.f7 := (Option.some.inj (Tryd.func7.symm.trans hfn)).symm
  refine ⟨by kernel_rfl, fun j t ht => ?_⟩
  rw [Tryd.params7] at ht
  have hm : t ∈ (#[22, 5, 23] : Array TypeId) := Array.mem_of_getElem? ht
  simp only [List.mem_toArray, List.mem_cons, List.not_mem_nil, or_false] at hm
  rcases hm with rfl | rfl | rfl
  all_goals first
    | exact (show Tryd.prog.wantsStandIn 22 = false by kernel_rfl)
    | exact (show Tryd.prog.wantsStandIn 5 = false by kernel_rfl)
    | exact (show Tryd.prog.wantsStandIn 23 = false by kernel_rfl)

/-- The statement. -/
theorem proved : Rows.ProvSparesCardSaid :=
  Claim7.holds_tied_plain_at .later [] _ _ _ _ said (fun _ h => by cases h) (by kernel_rfl) (fun _ h => by cases h) provSpares_row_tie rfl ⟨rfl, rfl⟩ (by kernel_rfl) rfl plain (by kernel_rfl)
end Go.Proofs.YtehdemcfeoiecaaDoor.provSpares
