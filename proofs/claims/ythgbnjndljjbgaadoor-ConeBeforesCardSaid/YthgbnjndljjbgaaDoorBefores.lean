/- Proved: ConeBefores returns true at every input, and its arguments read afterwards as before, tied to the program's text. Conditions: none. -/
import Derived.Test.YthgbnjndljjbgaaDoorFra
import Derived.Test.YthgbnjndljjbgaaDoorW16
namespace Go.Proofs.YthgbnjndljjbgaaDoor.coneBefores
open Go.ChangeShapes Go.WideShapes Go.ChangeAt Go.RowKit Go.Firn

theorem eqB_self (n : Nat) (f : Nat → Int) : eqB n n f f = true := eqB_true.2 ⟨rfl, fun _ _ => rfl⟩
/-- SameInts of a list and itself. -/
theorem same_v (l : List Nat) (hl : l.length ≤ 9223372036854775807) (x1 x2 : Option Addr) (y1 y2 : Nat) (w : World) (h1 : RdI w x1 l.length (nf l)) (h2 : RdI w x2 l.length (nf l)) :
    Calls Tryd.prog 21 #[.slice x1 l.length y1, .slice x2 l.length y2] w (RetB true w) := by
  have := SameInts_any x1 x2 l.length y1 l.length y2 (nf l) (nf l) w hl hl h1 h2
  rw [eqB_self] at this
  exact this
theorem els_short {n : Nat} (p : Nat → Bool) (hn : n ≤ 1000) : (els p n).length ≤ 9223372036854775807 := by
  rw [els_length]; have := cnt_le p n; omega

set_option maxHeartbeats 2000000 in
theorem walk (adr : Option Addr) (n cc : Nat) (P T : Nat → Int) (x y : Int) (w : World) (hn : n ≤ 9223372036854775807) (hw : WfH n P T) (hh : RdM w adr n P T) (_wx : (Lit.int .i64 x).wf = true) (_wy : (Lit.int .i64 y).wf = true) (hT : Tab w) :
    Calls Tryd.prog 4 #[.slice adr n cc, .int .i64 x, .int .i64 y] w (RetB true w) := by
  have HW := Lib.hid hw
  have HH := Lib.hid hh
  have TT := Lib.hid hT
  clear hw hh hT
  by_cases h40 : 40 < n
  · have S := Lib.hid (Sane_any w TT.out)
    have t1 : decide (40 < n) = true := by simpa using h40
    go_enter Tryd.func4, Tryd.ntmps4
    go_wp2_with (first
      | (go_at_call 15; refine (Long_any adr n cc _ hn).mono ?_; rintro e w1 ⟨rfl, rfl⟩; rw [t1])
      | (go_at_call 16; refine S.out.mono ?_; rintro e w2 ⟨rfl, g2⟩))
    go_ret
    exact ⟨rfl, g2⟩
  have t1 : decide (40 < n) = false := by simpa using h40
  have hn' : n ≤ 1000 := by omega
  have L1 := Lib.hid (show (pasG n P T x).length ≤ 9223372036854775807 by
    unfold pasG
    split
    · split
      · exact els_short _ hn'
      · simp
    · simp)
  have L2 := Lib.hid (show (firG n P T).length ≤ 9223372036854775807 by
    unfold firG
    split
    · exact els_short _ hn'
    · simp)
  have C1 := Lib.hid (fun w hr => Before_any adr n cc P T x y w hn' HW.out hr)
  have C2 := Lib.hid (fun w hr => refBefore_any adr n cc P T x y w hn' hr)
  have C3 := Lib.hid (fun w hr hT => Past_any adr n cc P T x w hn' HW.out hr hT)
  have C4 := Lib.hid (fun w hr => refPast_any adr n cc P T x w hn' hr)
  have C5 := Lib.hid (fun w hr => Valid_any adr n cc P T w hn' HW.out hr)
  have C6 := Lib.hid (fun w hr => (refValid_any adr n cc P T w hn' hr).mono fun _ _ h => h.b)
  have C7 := Lib.hid (fun w hr hT => First_any adr n cc P T w hn' HW.out hr hT)
  have C8 := Lib.hid (fun w hr => refFirst_any adr n cc P T w hn' hr)
  generalize pasG n P T x = Lp at L1 C3 C4
  generalize firG n P T = Lf at L2 C7 C8
  generalize errH n P T = eh at C7 C8
  generalize errP n P T x = ep at C3 C4
  generalize errB n P T x y = eb at C1 C2
  generalize befG n P T x y = vb at C1 C2
  generalize vH n P T = vh at C5 C6
  have z1 : (eh == eh) = true := by simp
  have z2 : (vb != vb) = false := by simp
  have z3 : (vh != vh) = false := by simp
  have z4 : (eb != eb) = false := by simp
  have z5 : (ep != ep) = false := by simp
  have E1 := Lib.hid (same_v Lp L1.out)
  have E2 := Lib.hid (same_v Lf L2.out)
  go_enter Tryd.func4, Tryd.ntmps4
  go_wp2_with (first
    | (go_at_call 15; refine (Long_any adr n cc _ hn).mono ?_; rintro e w1 ⟨rfl, rfl⟩; rw [t1])
    | (go_at_call 22; refine (C1.out _ HH.out).mono ?_; rintro e w1 ⟨rfl, g1⟩; have G1 := Lib.hid g1; clear g1)
    | (go_at_call 23; refine (C2.out _ (HH.out.gr G1.out)).mono ?_; rintro e w2 ⟨rfl, g2⟩; have G2 := Lib.hid (G1.out.trans g2); clear g2)
    | (go_at_call 24; refine (C3.out _ (HH.out.gr G2.out) (TT.out.gr G2.out)).mono ?_; rintro e w3 ⟨x1, y1, rfl, r11, r12, r13, g3⟩; have G3 := Lib.hid (G2.out.trans g3); have R1 := Lib.hid r13; clear g3 r11 r12 r13)
    | (go_at_call 25; refine (C4.out _ (HH.out.gr G3.out)).mono ?_; rintro e w4 ⟨x2, y2, rfl, r21, r22, r23, g4⟩; have G4 := Lib.hid (G3.out.trans g4); have R2 := Lib.hid r23; have R1' := Lib.hid (R1.out.gr g4); clear g4 r21 r22 r23)
    | (go_at_call 26; refine (C5.out _ (HH.out.gr G4.out)).mono ?_; rintro e w5 ⟨rfl, g5⟩; have G5 := Lib.hid (G4.out.trans g5); have S1 := Lib.hid (R1'.out.gr g5); have S2 := Lib.hid (R2.out.gr g5); clear g5)
    | (go_at_call 27; refine (C6.out _ (HH.out.gr G5.out)).mono ?_; rintro e w6 ⟨rfl, g6⟩; have G6 := Lib.hid (G5.out.trans g6); have S3 := Lib.hid (S1.out.gr g6); have S4 := Lib.hid (S2.out.gr g6); clear g6)
    | (go_at_call 21; (with_reducible refine (E1.out _ _ _ _ _ S3.out S4.out).mono ?_); rintro e w7 ⟨rfl, g7⟩; have G7 := Lib.hid (G6.out.trans g7); clear g7)
    | (go_at_call 28; refine (C7.out _ (HH.out.gr G7.out) (TT.out.gr G7.out)).mono ?_; rintro e w8 ⟨x3, y3, rfl, r11, r12, r13, g8⟩; have G8 := Lib.hid (G7.out.trans g8); have R3 := Lib.hid r13; clear g8 r11 r12 r13)
    | (go_at_call 29; refine (C8.out _ (HH.out.gr G8.out)).mono ?_; rintro e w9 ⟨x4, y4, rfl, r21, r22, r23, g9⟩; have G9 := Lib.hid (G8.out.trans g9); have R4 := Lib.hid r23; have R3' := Lib.hid (R3.out.gr g9); clear g9 r21 r22 r23)
    | (go_at_call 21; (with_reducible refine (E2.out _ _ _ _ _ R3'.out R4.out).mono ?_); rintro e w10 ⟨rfl, g10⟩; have G10 := Lib.hid (G9.out.trans g10); clear g10)
    | (go_at_call 16; refine (Sane_any _ (TT.out.gr G10.out)).mono ?_; rintro e w11 ⟨rfl, g11⟩; have G11 := Lib.hid (G10.out.trans g11)))
  go_ret
  exact ⟨rfl, G11.out⟩

set_option maxRecDepth 100000 in
theorem contract (H : Type) (enc : TypeId × Value → H) (W : World) (base : Nat) (args : Array Value) (ds gs : List (DataW H)) (before : List MemPlace)
    (hval0 : ∀ (j : Nat) t v, Tryd.f4.params[j]? = some t → args[j]? = some v → Value.okWide Tryd.prog W .any base t v)
    (hW : DataW.Whole enc Tryd.prog Tryd.f4.params.toList Rows.coneBeforesSpec.vars false W args.toList ds gs before) (hL : laidMetH Tryd.prog Rows.coneBeforesRow.laid W) :
    Calls Tryd.prog 4 args W fun e W' => ∃ v, e = .returned v ∧ Rows.coneBeforesSpec.post enc Tryd.prog Tryd.f4 false true false false W args v W' := by
  have hval : ∀ (j : Nat) t v, Tryd.f4.params[j]? = some t → args[j]? = some v → Value.okWide Tryd.prog W .any base t v := hval0
  have hW' := hW
  obtain ⟨p, q, hA0, hV, rfl, hfz, hnd⟩ := hW
  have hA : DataW.TrodAll enc Tryd.prog W 0 (fun _ => true) true Tryd.f4.params.toList args.toList ds p := hA0
  rw [Tryd.params4] at hA hval
  obtain ⟨v0, vs0, d0, ds0, p0, q0, hargs, rfl, rfl, h0, r0⟩ := trodAll_cons hA
  obtain ⟨v1, vs1, d1, ds1, p1, q1, rfl, rfl, rfl, h1, r1⟩ := trodAll_cons r0
  obtain ⟨v2, vs2, d2, ds2, p2, q2, rfl, rfl, rfl, h2, r2⟩ := trodAll_cons r1
  obtain ⟨rfl, rfl, rfl⟩ := trodAll_nil r2
  obtain rfl : args = #[v0, v1, v2] := by cases args; simp_all
  obtain ⟨rfl, rfl⟩ := trodVars_none hV
  obtain ⟨a0, len0, cap0, rfl⟩ := okWide_slice Tryd.underlying22 (hval 0 22 v0 rfl rfl)
  have k0 := h0
  have lt0 : ∀ x ∈ p0, x.block < W.heap.size := by obtain ⟨m, hm⟩ := k0; exact DataW.trod_lt m _ _ _ hm
  obtain ⟨x0, y0, wn0, wf0, wr0⟩ : ∃ f g : Nat → Int, len0 ≤ 9223372036854775807 ∧ (∀ i, i < len0 → (Lit.int .i64 (f i)).wf = true ∧ (Lit.int .i64 (g i)).wf = true) ∧ RdM W a0 len0 f g := by
    obtain ⟨fuel, hf⟩ := h0
    exact RdM.of_trod Tryd.underlying22 Tryd.underlying51 (by kernel_rfl) ⟨rfl, rfl⟩ ⟨rfl, rfl⟩ (by kernel_rfl) Tryd.underlying3 hf
  obtain ⟨a1, rfl, rfl, rfl, w1⟩ := open_int Tryd.underlying3 (hval 1 3 v1 rfl rfl) h1
  obtain ⟨a2, rfl, rfl, rfl, w2⟩ := open_int Tryd.underlying3 (hval 2 3 v2 rfl rfl) h2
  clear hA0 hval0
  refine (walk a0 len0 cap0 x0 y0 a1 a2 W wn0 wf0 wr0 w1 w2 (tab_of hL)).mono fun e W' ⟨he, bel⟩ => ?_
  subst he
  exact ⟨_, rfl, _, _, _, [], _, [], hW', trodAll_mk1 (shut_bool Tryd.underlying4 _), (trodAll_cons_mk (Below.trod laidOut (by kernel_rfl) (of_decide_eq_true (by kernel_rfl)) k0 bel lt0) (trodAll_cons_mk (shut_int Tryd.underlying3 w1) (trodAll_cons_mk (shut_int Tryd.underlying3 w2) trodAll_mk0))), rfl, bel.frame _, fun h => by cases h⟩

set_option maxRecDepth 100000 in
theorem met (os : Os) : laidMet Tryd.prog Rows.coneBeforesRow.laid ((laidWorld os).forCall (fun _ _ => 0) ⟨#[], #[.slice none 0 0, .int .i64 0, .int .i64 0], []⟩).memory :=
  laidMet_of_run' 8 (by kernel_rfl) (by kernel_rfl)
set_option maxRecDepth 100000 in
theorem reads (os : Os) (H : Type) (enc : TypeId × Value → H) : ∃ places, DataW.whole enc Tryd.prog ((laidWorld os).forCall (fun _ _ => 0) ⟨#[], #[.slice none 0 0, .int .i64 0, .int .i64 0], []⟩).memory Tryd.f4.params.toList Rows.coneBeforesSpec.vars false (#[.slice none 0 0, .int .i64 0, .int .i64 0] : Array Value).toList 8 = some ([.nil, .lit (.int .i64 0), .lit (.int .i64 0)], [], places) :=
  ⟨[], by kernel_rfl⟩

set_option maxRecDepth 100000 in
theorem lifted (os : Os) (started : os.Started) (H : Type) (enc : TypeId × Value → H) (F : Stop.Interp) :
    ReturnsInHanded {} Tryd.checked os 4 .any ((OpenSpec.ofChange Rows.coneBeforesSpec).preRow enc Tryd.prog Tryd.f4 Rows.coneBeforesRow.domain false Rows.coneBeforesRow.laid) (((OpenSpec.ofChange Rows.coneBeforesSpec).at F).post enc Tryd.prog Tryd.f4 false true false false) := by
  obtain ⟨places, hx⟩ := reads os H enc
  refine returnsInHanded_of_row (C := Tryd.checked) (s := OpenSpec.ofChange Rows.coneBeforesSpec) own started (by kernel_rfl) Tryd.func4
    (witness_row_at (enc := enc) (C := Tryd.checked) false (laidWorld os) #[.slice none 0 0, .int .i64 0, .int .i64 0] rfl (by kernel_rfl) (by kernel_rfl) (by kernel_rfl)
      (OpenSpec.preRow_of_cond 8 hx (by kernel_rfl) (fun k hk => by cases hk) (by kernel_rfl) (met os))) ?_
  intro W base args ds gs before hval hW _ _ _ hL _ _
  exact contract H enc W base args ds gs before hval hW hL

theorem said : Rows.ConeBeforesSaid :=
  OpenClaim.holds_of_cond 4 Tryd.f4 rfl rfl rfl rfl rfl rfl rfl ⟨rfl, rfl, rfl, rfl, rfl⟩ rfl rfl rfl rfl rfl (by kernel_rfl) Tryd.func4 (by kernel_rfl)
    (of_decide_eq_true (by kernel_rfl)) (by unfold Func.isWrapper; first | (rw [if_pos (by decide +kernel)]; kernel_rfl) | (rw [if_neg (by decide +kernel)]; exact ⟨rfl, rfl⟩))
    (fun os started H enc _ F => by rw [OpenClaim.pre_eq_preRow]; exact lifted os started H enc F)

set_option maxRecDepth 100000 in
theorem plain (f : FuncId) (fn : Func) (hf : Tryd.pinned.checked.prog.funcNamed Rows.coneBeforesRow.func = some f) (hfn : Tryd.pinned.checked.prog.funcs[f]? = some fn) :
    false = Tryd.pinned.checked.prog.looks [] ∧ ∀ (j : Nat) t, fn.params[j]? = some t → Tryd.pinned.checked.prog.wantsStandIn t = false := by
  obtain rfl : f = 4 := Option.some.inj ((show Tryd.prog.funcNamed Rows.coneBeforesRow.func = some 4 by kernel_rfl).symm.trans hf) |>.symm
  obtain rfl : fn = Tryd.f4 := (Option.some.inj (Tryd.func4.symm.trans hfn)).symm
  refine ⟨by kernel_rfl, fun j t ht => ?_⟩
  rw [Tryd.params4] at ht
  have hm : t ∈ (#[22, 3, 3] : Array TypeId) := Array.mem_of_getElem? ht
  simp only [List.mem_toArray, List.mem_cons, List.not_mem_nil, or_false] at hm
  rcases hm with rfl | rfl | rfl
  all_goals first
    | exact (show Tryd.prog.wantsStandIn 22 = false by kernel_rfl)
    | exact (show Tryd.prog.wantsStandIn 3 = false by kernel_rfl)

/-- The statement. -/
theorem proved : Rows.ConeBeforesCardSaid :=
  Claim7.holds_tied_plain_at .later [] _ _ _ _ said (fun _ h => by cases h) (by kernel_rfl) (fun _ h => by cases h) coneBefores_row_tie rfl ⟨rfl, rfl⟩ (by kernel_rfl) rfl plain (by kernel_rfl)
end Go.Proofs.YthgbnjndljjbgaaDoor.coneBefores
