/- Proved: ConeChains returns true at every input, and its arguments read afterwards as before, tied to the program's text. Conditions: none. -/
import Derived.Test.YtjokheeegcilhaaDoorFra
import Derived.Test.YtjokheeegcilhaaDoorWT
import Derived.Test.YtjokheeegcilhaaDoorW37
namespace Go.Proofs.YtjokheeegcilhaaDoor.coneChains
open Go.ChangeShapes Go.WideShapes Go.ChangeAt Go.RowKit Go.Firn

theorem eqB_self (n : Nat) (f : Nat → Int) : eqB n n f f = true := eqB_true.2 ⟨rfl, fun _ _ => rfl⟩
theorem chain_both (adr : Option Addr) (n c : Nat) (P T : Nat → Int) (w : World) (hn : n ≤ 1000) (hr : RdM w adr n P T) (hw : WfH n P T) (hT : Tab w) :
    ∃ (L : List Nat) (E : Int), L.length ≤ 9223372036854775807 ∧ (∀ w1, Gr w w1 → Calls Tryd.prog 45 #[.slice adr n c] w1 (RetIs L.length (nf L) E w1)) ∧ ∀ w1, Gr w w1 → Calls Tryd.prog 54 #[.slice adr n c] w1 (RetIs L.length (nf L) E w1) := by
  cases hv : vH n P T with
  | false => exact ⟨[], 20, by simp, fun w1 k => Chain_no adr n c P T w1 hn hw (hr.gr k) hv, fun w1 k => refChain_no adr n c P T w1 hn (hr.gr k) hv⟩
  | true =>
    have V := vH_iff.1 hv
    exact ⟨chnL n P T, 0, by rw [(chnL_good V.pos).1]; have := topH_le (n := n) (P := P) (T := T); omega, fun w1 k => Chain_ok adr n c P T w1 V hw (hr.gr k) (hT.gr k), fun w1 k => refChain_ok adr n c P T w1 V (hr.gr k)⟩
theorem chains_both (adr : Option Addr) (n c : Nat) (P T : Nat → Int) (w : World) (hn : n ≤ 1000) (hr : RdM w adr n P T) (hw : WfH n P T) (hT : Tab w) :
    ∃ t E : Int, (∀ w1, Gr w w1 → Calls Tryd.prog 55 #[.slice adr n c] w1 (RetNE t E w1)) ∧ ∀ w1, Gr w w1 → Calls Tryd.prog 56 #[.slice adr n c] w1 (RetNE t E w1) := by
  cases hv : vH n P T with
  | false => exact ⟨0, 20, fun w1 k => Chains_no adr n c P T w1 hn hw (hr.gr k) hv, fun w1 k => refChains_no adr n c P T w1 hn (hr.gr k) hv⟩
  | true =>
    have V := vH_iff.1 hv
    exact ⟨chC n P T, 0, fun w1 k => Chains_ok adr n c P T w1 V hw (hr.gr k) (hT.gr k), fun w1 k => refChains_ok adr n c P T w1 V (hr.gr k)⟩

set_option maxHeartbeats 2000000 in
set_option maxRecDepth 20000 in
theorem walk (adr : Option Addr) (n cc : Nat) (P T : Nat → Int) (a : Option Addr) (m c : Nat) (l : Nat → Int) (w : World) (hn : n ≤ 9223372036854775807) (hw : WfH n P T) (hh : RdM w adr n P T) (hm : m ≤ 9223372036854775807) (_hmc : m ≤ c) (hr : RdI w a m l) (hT : Tab w) :
    Calls Tryd.prog 13 #[.slice adr n cc, .slice a m c] w (RetB true w) := by
  have TT := Lib.hid hT
  by_cases h40 : 40 < n
  · have S := Lib.hid (Sane_any w TT.out)
    have t1 : decide (40 < n) = true := by simpa using h40
    clear hw hh hr hT
    go_enter Tryd.func13, Tryd.ntmps13
    go_wp2_with (first
      | (go_at_call 15; refine (Long_any adr n cc _ hn).mono ?_; rintro e w1 ⟨rfl, rfl⟩; rw [t1])
      | (go_at_call 16; refine S.out.mono ?_; rintro e w2 ⟨rfl, g2⟩))
    go_ret
    exact ⟨rfl, g2⟩
  by_cases h100 : 100 < m
  · have S := Lib.hid (Sane_any w TT.out)
    have t1 : decide (40 < n) = false := by simpa using h40
    clear hw hh hr hT
    go_enter Tryd.func13, Tryd.ntmps13
    go_wp2_with (first
      | (go_at_call 15; refine (Long_any adr n cc _ hn).mono ?_; rintro e w1 ⟨rfl, rfl⟩; rw [t1])
      | (go_at_call 16; refine S.out.mono ?_; rintro e w2 ⟨rfl, g2⟩))
    go_ret
    exact ⟨rfl, g2⟩
  have t1 : decide (40 < n) = false := by simpa using h40
  have hn' : n ≤ 1000 := by omega
  have hm' : m ≤ 100 := by omega
  obtain ⟨L, E, lb, C1, C2⟩ := chain_both adr n cc P T w hn' hh hw hT
  obtain ⟨t, F, C5, C6⟩ := chains_both adr n cc P T w hn' hh hw hT
  have C3 := Lib.hid (fun w1 (k : Gr w w1) => IsChain_any adr n cc P T a m c l w1 hn' hw hm' (hh.gr k) (hr.gr k))
  have C4 := Lib.hid (fun w1 (k : Gr w w1) => refIsChain_any adr n cc P T a m c l w1 hn' hm' (hh.gr k) (hr.gr k))
  have C1 := Lib.hid C1
  have C2 := Lib.hid C2
  have C5 := Lib.hid C5
  have C6 := Lib.hid C6
  have LB := Lib.hid lb
  have ES := Lib.hid (eqB_self L.length (nf L))
  generalize errH n P T = er at C3 C4
  generalize isChnG n P T m l = ib at C3 C4
  have z1 : (er == er) = true := by simp
  have z2 : (ib == ib) = true := by simp
  have z3 : (E == E) = true := by simp
  have z4 : (t == t) = true := by simp
  have z5 : (F == F) = true := by simp
  clear hw hh hr hT lb
  go_enter Tryd.func13, Tryd.ntmps13
  go_wp2_with (first
    | (go_at_call 15; refine (Long_any adr n cc _ hn).mono ?_; rintro e w1 ⟨rfl, rfl⟩; rw [t1])
    | (go_at_call 45; (with_reducible refine (C1.out _ (Gr.refl _)).mono ?_); rintro e w1 ⟨x1, y1, rfl, r11, r12, r13, g1⟩; have G1 := Lib.hid g1; have R1 := Lib.hid r13; clear g1 r13)
    | (go_at_call 54; (with_reducible refine (C2.out _ G1.out).mono ?_); rintro e w2 ⟨x2, y2, rfl, r21, r22, r23, g2⟩; have G2 := Lib.hid (G1.out.trans g2); have R1 := Lib.hid (R1.out.gr g2); have R2 := Lib.hid r23; clear g2 r23)
    | (go_at_call 47; (with_reducible refine (C3.out _ G2.out).mono ?_); rintro e w3 ⟨rfl, g3⟩; have G3 := Lib.hid (G2.out.trans g3); have R1 := Lib.hid (R1.out.gr g3); have R2 := Lib.hid (R2.out.gr g3); clear g3)
    | (go_at_call 46; (with_reducible refine (C4.out _ G3.out).mono ?_); rintro e w4 ⟨rfl, g4⟩; have G4 := Lib.hid (G3.out.trans g4); have R1 := Lib.hid (R1.out.gr g4); have R2 := Lib.hid (R2.out.gr g4); clear g4)
    | (go_at_call 55; (with_reducible refine (C5.out _ G4.out).mono ?_); rintro e w5 ⟨rfl, g5⟩; have G5 := Lib.hid (G4.out.trans g5); have R1 := Lib.hid (R1.out.gr g5); have R2 := Lib.hid (R2.out.gr g5); clear g5)
    | (go_at_call 56; (with_reducible refine (C6.out _ G5.out).mono ?_); rintro e w6 ⟨rfl, g6⟩; have G6 := Lib.hid (G5.out.trans g6); have R1 := Lib.hid (R1.out.gr g6); have R2 := Lib.hid (R2.out.gr g6); clear g6)
    | (go_at_call 21; refine (SameInts_any x1 x2 L.length y1 L.length y2 (nf L) (nf L) _ LB.out LB.out R1.out R2.out).mono ?_; rintro e w7 ⟨rfl, g7⟩; rw [ES.out]; have G7 := Lib.hid (G6.out.trans g7))
    | (go_at_call 16; refine (Sane_any _ (TT.out.gr G7.out)).mono ?_; rintro e w8 ⟨rfl, g8⟩; have G8 := Lib.hid (G7.out.trans g8)))
  go_ret
  exact ⟨rfl, G8.out⟩

set_option maxRecDepth 100000 in
theorem contract (H : Type) (enc : TypeId × Value → H) (W : World) (base : Nat) (args : Array Value) (ds gs : List (DataW H)) (before : List MemPlace)
    (hval0 : ∀ (j : Nat) t v, Tryd.f13.params[j]? = some t → args[j]? = some v → Value.okWide Tryd.prog W .any base t v)
    (hW : DataW.Whole enc Tryd.prog Tryd.f13.params.toList Rows.coneChainsSpec.vars false W args.toList ds gs before) (hL : laidMetH Tryd.prog Rows.coneChainsRow.laid W) :
    Calls Tryd.prog 13 args W fun e W' => ∃ v, e = .returned v ∧ Rows.coneChainsSpec.post enc Tryd.prog Tryd.f13 false true false false W args v W' := by
  have hval : ∀ (j : Nat) t v, Tryd.f13.params[j]? = some t → args[j]? = some v → Value.okWide Tryd.prog W .any base t v := hval0
  have hW' := hW
  obtain ⟨p, q, hA0, hV, rfl, hfz, hnd⟩ := hW
  have hA : DataW.TrodAll enc Tryd.prog W 0 (fun _ => true) true Tryd.f13.params.toList args.toList ds p := hA0
  rw [Tryd.params13] at hA hval
  obtain ⟨v0, vs0, d0, ds0, p0, q0, hargs, rfl, rfl, h0, r0⟩ := trodAll_cons hA
  obtain ⟨v1, vs1, d1, ds1, p1, q1, rfl, rfl, rfl, h1, r1⟩ := trodAll_cons r0
  obtain ⟨rfl, rfl, rfl⟩ := trodAll_nil r1
  obtain rfl : args = #[v0, v1] := by cases args; simp_all
  obtain ⟨rfl, rfl⟩ := trodVars_none hV
  obtain ⟨a0, len0, cap0, rfl⟩ := okWide_slice Tryd.underlying22 (hval 0 22 v0 rfl rfl)
  have k0 := h0
  have lt0 : ∀ x ∈ p0, x.block < W.heap.size := by obtain ⟨m, hm⟩ := k0; exact DataW.trod_lt m _ _ _ hm
  obtain ⟨x0, y0, wn0, wf0, wr0⟩ : ∃ f g : Nat → Int, len0 ≤ 9223372036854775807 ∧ (∀ i, i < len0 → (Lit.int .i64 (f i)).wf = true ∧ (Lit.int .i64 (g i)).wf = true) ∧ RdM W a0 len0 f g := by
    obtain ⟨fuel, hf⟩ := h0
    exact RdM.of_trod Tryd.underlying22 Tryd.underlying51 (by kernel_rfl) ⟨rfl, rfl⟩ ⟨rfl, rfl⟩ (by kernel_rfl) Tryd.underlying3 hf
  obtain ⟨a1, len1, cap1, rfl⟩ := okWide_slice Tryd.underlying23 (hval 1 23 v1 rfl rfl)
  have k1 := h1
  have lt1 : ∀ x ∈ p1, x.block < W.heap.size := by obtain ⟨m, hm⟩ := k1; exact DataW.trod_lt m _ _ _ hm
  obtain ⟨z1, w1⟩ : ∃ zs, IsRow W a1 len1 cap1 zs := by
    obtain ⟨fuel, hf⟩ := h1
    rcases open_ints Tryd.underlying23 Tryd.underlying3 (by kernel_rfl) hf with ⟨hcs, _⟩ | ⟨x, l, c, zs, hcs, _, hl, hm, hz, _, hcell, hwz⟩
    · simp [Value.cells] at hcs
      obtain ⟨rfl, rfl, rfl⟩ := hcs
      exact ⟨[], .inl ⟨rfl, rfl, rfl, rfl⟩⟩
    · simp [Value.cells] at hcs
      obtain ⟨rfl, rfl, rfl⟩ := hcs
      exact ⟨zs, .inr ⟨_, rfl, hl, hm, by simpa using hz, hcell, hwz⟩⟩
  clear hA0 hval0
  refine (walk a0 len0 cap0 x0 y0 a1 len1 cap1 _ W wn0 wf0 wr0 w1.rd.1 w1.cap w1.rd.2 (tab_of hL)).mono fun e W' ⟨he, bel⟩ => ?_
  subst he
  exact ⟨_, rfl, _, _, _, [], _, [], hW', trodAll_mk1 (shut_bool Tryd.underlying4 _), (trodAll_cons_mk (Below.trod laidOut (by kernel_rfl) (of_decide_eq_true (by kernel_rfl)) k0 bel lt0) (trodAll_cons_mk (Below.trod laidOut (by kernel_rfl) (of_decide_eq_true (by kernel_rfl)) k1 bel lt1) trodAll_mk0)), rfl, bel.frame _, fun h => by cases h⟩

set_option maxRecDepth 100000 in
theorem met (os : Os) : laidMet Tryd.prog Rows.coneChainsRow.laid ((laidWorld os).forCall (fun _ _ => 0) ⟨#[], #[.slice none 0 0, .slice none 0 0], []⟩).memory :=
  laidMet_of_run' 8 (by kernel_rfl) (by kernel_rfl)
set_option maxRecDepth 100000 in
theorem reads (os : Os) (H : Type) (enc : TypeId × Value → H) : ∃ places, DataW.whole enc Tryd.prog ((laidWorld os).forCall (fun _ _ => 0) ⟨#[], #[.slice none 0 0, .slice none 0 0], []⟩).memory Tryd.f13.params.toList Rows.coneChainsSpec.vars false (#[.slice none 0 0, .slice none 0 0] : Array Value).toList 8 = some ([.nil, .nil], [], places) :=
  ⟨[], by kernel_rfl⟩

set_option maxRecDepth 100000 in
theorem lifted (os : Os) (started : os.Started) (H : Type) (enc : TypeId × Value → H) (F : Stop.Interp) :
    ReturnsInHanded {} Tryd.checked os 13 .any ((OpenSpec.ofChange Rows.coneChainsSpec).preRow enc Tryd.prog Tryd.f13 Rows.coneChainsRow.domain false Rows.coneChainsRow.laid) (((OpenSpec.ofChange Rows.coneChainsSpec).at F).post enc Tryd.prog Tryd.f13 false true false false) := by
  obtain ⟨places, hx⟩ := reads os H enc
  refine returnsInHanded_of_row (C := Tryd.checked) (s := OpenSpec.ofChange Rows.coneChainsSpec) own started (by kernel_rfl) Tryd.func13
    (witness_row_at (enc := enc) (C := Tryd.checked) false (laidWorld os) #[.slice none 0 0, .slice none 0 0] rfl (by kernel_rfl) (by kernel_rfl) (by kernel_rfl)
      (OpenSpec.preRow_of_cond 8 hx (by kernel_rfl) (fun k hk => by cases hk) (by kernel_rfl) (met os))) ?_
  intro W base args ds gs before hval hW _ _ _ hL _ _
  exact contract H enc W base args ds gs before hval hW hL

theorem said : Rows.ConeChainsSaid :=
  OpenClaim.holds_of_cond 13 Tryd.f13 rfl rfl rfl rfl rfl rfl rfl ⟨rfl, rfl, rfl, rfl, rfl⟩ rfl rfl rfl rfl rfl (by kernel_rfl) Tryd.func13 (by kernel_rfl)
    (of_decide_eq_true (by kernel_rfl)) (by unfold Func.isWrapper; first | (rw [if_pos (by decide +kernel)]; kernel_rfl) | (rw [if_neg (by decide +kernel)]; exact ⟨rfl, rfl⟩))
    (fun os started H enc _ F => by rw [OpenClaim.pre_eq_preRow]; exact lifted os started H enc F)

set_option maxRecDepth 100000 in
theorem plain (f : FuncId) (fn : Func) (hf : Tryd.pinned.checked.prog.funcNamed Rows.coneChainsRow.func = some f) (hfn : Tryd.pinned.checked.prog.funcs[f]? = some fn) :
    false = Tryd.pinned.checked.prog.looks [] ∧ ∀ (j : Nat) t, fn.params[j]? = some t → Tryd.pinned.checked.prog.wantsStandIn t = false := by
  obtain rfl : f = 13 := Option.some.inj ((show Tryd.prog.funcNamed Rows.coneChainsRow.func = some 13 by kernel_rfl).symm.trans hf) |>.symm
  obtain rfl : fn = Tryd.f13 := (Option.some.inj (Tryd.func13.symm.trans hfn)).symm
  refine ⟨by kernel_rfl, fun j t ht => ?_⟩
  rw [Tryd.params13] at ht
  have hm : t ∈ (#[22, 23] : Array TypeId) := Array.mem_of_getElem? ht
  simp only [List.mem_toArray, List.mem_cons, List.not_mem_nil, or_false] at hm
  rcases hm with rfl | rfl
  all_goals first
    | exact (show Tryd.prog.wantsStandIn 22 = false by kernel_rfl)
    | exact (show Tryd.prog.wantsStandIn 23 = false by kernel_rfl)

/-- The statement. -/
theorem proved : Rows.ConeChainsCardSaid :=
  Claim7.holds_tied_plain_at .later [] _ _ _ _ said (fun _ h => by cases h) (by kernel_rfl) (fun _ h => by cases h) coneChains_row_tie rfl ⟨rfl, rfl⟩ (by kernel_rfl) rfl plain (by kernel_rfl)
end Go.Proofs.YtjokheeegcilhaaDoor.coneChains
