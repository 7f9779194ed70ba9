/- Proved: ConeOrders returns true at every input, and its arguments read afterwards as before, tied to the program's text. Conditions: none. -/
import Derived.Test.YthgbnjndljjbgaaDoorFrb
import Derived.Test.YthgbnjndljjbgaaDoorW17
namespace Go.Proofs.YthgbnjndljjbgaaDoor.coneOrders
open Go.ChangeShapes Go.WideShapes Go.ChangeAt Go.RowKit Go.Firn

theorem els_short {n : Nat} (p : Nat → Bool) (hn : n ≤ 1000) : (els p n).length ≤ 9223372036854775807 := by
  rw [els_length]; have := cnt_le p n; omega
/-- has of a list. -/
theorem has_v {l : List Nat} {j : Nat} {v : Bool} (h : l.contains j = v) (hl : l.length ≤ 9223372036854775807) (a : Option Addr) (c : Nat) (w : World) (hr : RdI w a l.length (nf l)) :
    Calls Tryd.prog 30 #[.slice a l.length c, .int .i64 j] w fun e w' => e = .returned (.bool v) ∧ w = w' := by
  have := hasl_any a l.length c (nf l) j w hl hr
  rw [anyB_list, h] at this
  exact this

theorem past_sub {n : Nat} {P T : Nat → Int} {b c : Nat} (h : bf P T b c = true) : ∀ k, k < (pastL n P T b).length → (pastL n P T c).contains ((pastL n P T b).getD k 0) = true := by
  unfold pastL
  intro k hk
  obtain ⟨h1, h2⟩ := els_lt hk
  rw [els_contains h1]
  exact bf_trans h2 h

set_option maxHeartbeats 4000000 in
set_option maxRecDepth 20000 in
theorem walk_ok (adr : Option Addr) (n cc : Nat) (P T : Nat → Int) (v0 v1 v2 : Nat) (w : World) (V : VH n P T) (hw : WfH n P T) (hh : RdM w adr n P T) (hT : Tab w) (b0 : v0 ≤ 255) (b1 : v1 ≤ 255) (b2 : v2 ≤ 255) :
    Calls Tryd.prog 5 #[.slice adr n cc, .agg #[.int .u8 v0, .int .u8 v1, .int .u8 v2]] w (RetB true w) := by
  have HV := Lib.hid V
  have HW := Lib.hid hw
  have HH := Lib.hid hh
  have TT := Lib.hid hT
  have hn := V.few
  have hp := V.pos
  have t1 : decide (40 < n) = false := by simp; omega
  have G0 := Lib.hid ((Gr.refl w).alloc (.cells #[.int .u8 v0, .int .u8 v1, .int .u8 v2] 36))
  have c0 := ((Gr.refl (w.alloc (.cells #[.int .u8 v0, .int .u8 v1, .int .u8 v2] 36))).fresh' (b := w.heap.size) (j := 0) (v := .int .u8 v0) rfl rfl).1
  have c1 := ((Gr.refl (w.alloc (.cells #[.int .u8 v0, .int .u8 v1, .int .u8 v2] 36))).fresh' (b := w.heap.size) (j := 1) (v := .int .u8 v1) rfl rfl).1
  have c2 := ((Gr.refl (w.alloc (.cells #[.int .u8 v0, .int .u8 v1, .int .u8 v2] 36))).fresh' (b := w.heap.size) (j := 2) (v := .int .u8 v2) rfl rfl).1
  have CV := Lib.hid (fun w hr => by have := (refValid_any adr n cc P T w (by omega) hr).mono fun _ _ h => h.b; rw [vH_iff.2 V] at this; exact this)
  have hA : v0 % n < n := Nat.mod_lt _ hp
  have hB : v1 % n < n := Nat.mod_lt _ hp
  have hC : v2 % n < n := Nat.mod_lt _ hp
  have m0 : ((v0 : Int)).tmod (n : Int) = ((v0 % n : Nat) : Int) := by rw [Int.tmod_eq_emod_of_nonneg (by omega)]; rfl
  have m1 : ((v1 : Int)).tmod (n : Int) = ((v1 % n : Nat) : Int) := by rw [Int.tmod_eq_emod_of_nonneg (by omega)]; rfl
  have m2 : ((v2 : Int)).tmod (n : Int) = ((v2 % n : Nat) : Int) := by rw [Int.tmod_eq_emod_of_nonneg (by omega)]; rfl
  have n0 : ((n : Int) == 0) = false := by simp; omega
  have n1 : ¬ (n : Int) = 0 := by omega
  generalize v0 % n = A at hA m0
  generalize v1 % n = B at hB m1
  generalize v2 % n = C at hC m2
  clear V hw hh hT
  go_enter Tryd.func5, Tryd.ntmps5
  go_wp2_with (first
    | (go_at_call 15; refine (Long_any adr n cc _ (by omega)).mono ?_; rintro e w1 ⟨rfl, rfl⟩; rw [t1])
    | (go_at_call 27; refine (CV.out _ (HH.out.gr G0.out)).mono ?_; rintro e w1 ⟨rfl, g1⟩; have G1 := Lib.hid (G0.out.trans g1); have d0 := g1.cell c0; have d1 := g1.cell c1; have d2 := g1.cell c2; clear g1))
  clear c0 c1 c2
  go_upto_region 3 with (fail)
  go_quiet (fail)
  generalize hwa : World.drewN _ _ = wa
  have Ga := Lib.hid (show Gr w wa by rw [← hwa]; exact G1.out.drewN _)
  clear hwa d0 d1 d2 G1 G0 m0 m1 m2 n0 n1
  have CAA := Lib.hid (fun w hr => by have := Before_ok adr n cc P T A A w HV.out hA hA HW.out hr; rw [bf_self] at this; exact this)
  have CAB := Lib.hid (fun w hr => Before_ok adr n cc P T A B w HV.out hA hB HW.out hr)
  have CBA := Lib.hid (fun w hr => Before_ok adr n cc P T B A w HV.out hB hA HW.out hr)
  have CBC := Lib.hid (fun w hr => Before_ok adr n cc P T B C w HV.out hB hC HW.out hr)
  have CAC := Lib.hid (fun w hr => Before_ok adr n cc P T A C w HV.out hA hC HW.out hr)
  have X1 := Lib.hid (show (bf P T A B && bf P T B A) = false by
    cases h : bf P T A B
    · rfl
    · rw [bf_asymm h]; rfl)
  have X2 := Lib.hid (show (bf P T A B && bf P T B C && !bf P T A C) = false by
    cases h : bf P T A B
    · rfl
    · cases k : bf P T B C
      · rfl
      · rw [bf_trans h k]; rfl)
  have PC := Lib.hid (fun w hr hT => Past_ok adr n cc P T C w HV.out hC HW.out hr hT)
  have PB := Lib.hid (fun w hr hT => Past_ok adr n cc P T B w HV.out hB HW.out hr hT)
  have FI := Lib.hid (fun w hr hT => First_ok adr n cc P T w HV.out HW.out hr hT)
  have l1 : (pastL n P T C).length ≤ 9223372036854775807 := els_short _ (by omega)
  have l2 : (pastL n P T B).length ≤ 9223372036854775807 := els_short _ (by omega)
  have l3 : (firstL n P T fun _ => true).length ≤ 9223372036854775807 := els_short _ (by omega)
  have L2 := Lib.hid l2
  have H1 := Lib.hid (has_v (l := pastL n P T C) (j := B) (v := bf P T B C) (els_contains hB) l1)
  have H2 := Lib.hid (has_v (l := pastL n P T C) (j := A) (v := bf P T A C) (els_contains hA) l1)
  have H3 := Lib.hid (has_v (l := firstL n P T fun _ => true) (j := B) (v := (((pastL n P T B).length : Int) == 0)) (by rw [first_past hB, Bool.eq_iff_iff]; simp) l3)
  have HS := Lib.hid (fun hb => past_sub (n := n) (P := P) (T := T) (b := B) (c := C) hb)
  have H4 := Lib.hid (fun (j : Nat) (h : (pastL n P T C).contains j = true) => has_v h l1)
  clear l1 l2 l3
  generalize (firstL n P T fun _ => true) = LF at FI H3
  generalize pastL n P T C = LC at PC H1 H2 HS H4
  generalize pastL n P T B = LB at PB L2 H3 HS
  obtain ⟨fz, hfz⟩ : ∃ fz, ((LB.length : Int) == 0) = fz := ⟨_, rfl⟩
  rw [hfz] at H3
  have HFZ := Lib.hid hfz
  clear hfz
  generalize bf P T A B = ab at CAB X1 X2
  generalize bf P T B A = ba at CBA X1
  generalize bf P T B C = bc at CBC X2 H1 HS
  generalize bf P T A C = ac at CAC X2 H2
  go_wp2_with fail
  go_upto_region 9 with (first
    | (go_at_call 22; (with_reducible refine (CAA.out _ (HH.out.gr Ga.out)).mono ?_); rintro e w2 ⟨rfl, g2⟩; have G2 := Lib.hid (Ga.out.trans g2); clear g2)
    | (go_at_call 22; (with_reducible refine (CAB.out _ (HH.out.gr G2.out)).mono ?_); rintro e w3 ⟨rfl, g2⟩; have G3 := Lib.hid (G2.out.trans g2); clear g2)
    | (go_at_call 22; (with_reducible refine (CBA.out _ (HH.out.gr G3.out)).mono ?_); rintro e w4 ⟨rfl, g2⟩; have G4 := Lib.hid (G3.out.trans g2); clear g2)
    | (go_at_call 22; (with_reducible refine (CBC.out _ (HH.out.gr G4.out)).mono ?_); rintro e w5 ⟨rfl, g2⟩; have G5 := Lib.hid (G4.out.trans g2); clear g2)
    | (go_at_call 22; (with_reducible refine (CAC.out _ (HH.out.gr G5.out)).mono ?_); rintro e w6 ⟨rfl, g2⟩; have G6 := Lib.hid (G5.out.trans g2); clear g2))
  go_cut [119] from 83 to 119 (fun s wx => s = .bool false ∧ wx = w6)
  case first =>
    have x1 := X1.out
    have x2 := X2.out
    clear CAB CBA CBC CAC H1 H2 HS X1 X2
    cases ab <;> cases ba <;> cases bc <;> cases ac <;> first
      | (exfalso; simp at x1 x2; done)
      | (clear x1 x2; go_wp2_with fail; go_meet; exact ⟨rfl, by trivial⟩)
  case rest =>
    obtain ⟨rfl, rfl⟩ := hcut
    clear CAA CAB CBA CBC CAC X1 X2
    have z1 : (bc != bc) = false := by simp
    have z2 : (ac != ac) = false := by simp
    have z3 : (fz != fz) = false := by simp
    have z4 : ((LB.length : Int) == 0) = fz := HFZ.out
    go_wp2_with (first
      | (go_at_call 24; (with_reducible refine (PC.out _ (HH.out.gr G6.out) (TT.out.gr G6.out)).mono ?_); rintro e w7 ⟨x1, y1, rfl, r11, r12, r13, g7⟩; have G7 := Lib.hid (G6.out.trans g7); have R1 := Lib.hid r13; clear g7 r11 r12 r13)
      | (go_at_call 24; (with_reducible refine (PB.out _ (HH.out.gr G7.out) (TT.out.gr G7.out)).mono ?_); rintro e w8 ⟨x2, y2, rfl, r11, r12, r13, g7⟩; have G8 := Lib.hid (G7.out.trans g7); have R2 := Lib.hid r13; have R1' := Lib.hid (R1.out.gr g7); clear g7 r11 r12 r13)
      | (go_at_call 28; (with_reducible refine (FI.out _ (HH.out.gr G8.out) (TT.out.gr G8.out)).mono ?_); rintro e w9 ⟨x3, y3, rfl, r11, r12, r13, g7⟩; have G9 := Lib.hid (G8.out.trans g7); have R3 := Lib.hid r13; have R1'' := Lib.hid (R1'.out.gr g7); have R2' := Lib.hid (R2.out.gr g7); clear g7 r11 r12 r13)
      | (go_at_call 30; (with_reducible refine (H1.out _ _ _ R1''.out).mono ?_); rintro e w10 ⟨rfl, rfl⟩)
      | (go_at_call 30; (with_reducible refine (H2.out _ _ _ R1''.out).mono ?_); rintro e w10 ⟨rfl, rfl⟩)
      | (go_at_call 30; (with_reducible refine (H3.out _ _ _ R3.out).mono ?_); rintro e w10 ⟨rfl, rfl⟩))
    have R1s := Lib.hid R1''.out
    clear H1 H2 H3 z1 z2 z3 z4 HFZ
    go_loopw [21] (fun si wx => ∃ k : Nat, k ≤ LB.length ∧ si = .int .i64 k ∧ wx = w9) (fun si _ => LB.length - (intOf si).toNat)
    case atStart => exact ⟨0, Nat.zero_le _, rfl, rfl⟩
    case round =>
      obtain ⟨k, hk, rfl, rfl⟩ := hrel
      have ST := Lib.hid (Sane_any wr (TT.out.gr G9.out))
      by_cases hlt : k < LB.length
      · have lb := L2.out
        cases bc with
        | false =>
          go_wp2_with (go_at_call 16; refine ST.out.mono ?_; rintro e w12 ⟨rfl, g12⟩)
          go_ret
          exact ⟨rfl, G9.out.trans g12⟩
        | true =>
          obtain ⟨b, o, rfl, hc⟩ := R2'.out.at hlt
          have ck := hc k hlt
          have H5 := Lib.hid (H4.out _ (HS.out rfl k hlt))
          unfold nf at ck
          generalize LB.getD k 0 = x at ck H5
          have k1 : (k : Int) < (LB.length : Int) := by omega
          have kw : IntKind.i64.wrap ((k : Int) + 1) = (k : Int) + 1 := IntWalk.i64_in _ (by omega)
          clear hc
          go_wp2_with (go_at_call 30; (with_reducible refine (H5.out _ _ _ R1s.out).mono ?_); rintro e w10 ⟨rfl, rfl⟩)
          go_roundw
          case rel => exact ⟨k + 1, hlt, by go_num, by trivial⟩
          case measure => simp [intOf]; omega
      · obtain rfl : k = LB.length := by omega
        go_wp2_with (go_at_call 16; refine ST.out.mono ?_; rintro e w12 ⟨rfl, g12⟩)
        go_ret
        exact ⟨rfl, G9.out.trans g12⟩

set_option maxHeartbeats 1000000 in
set_option maxRecDepth 20000 in
theorem walk (adr : Option Addr) (n cc : Nat) (P T : Nat → Int) (x0 x1 x2 : Int) (w : World) (hn : n ≤ 9223372036854775807) (hw : WfH n P T) (hh : RdM w adr n P T) (q0 : (Lit.int .u8 x0).wf = true) (q1 : (Lit.int .u8 x1).wf = true) (q2 : (Lit.int .u8 x2).wf = true) (hT : Tab w) :
    Calls Tryd.prog 5 #[.slice adr n cc, .agg #[.int .u8 x0, .int .u8 x1, .int .u8 x2]] w (RetB true w) := by
  obtain ⟨v0, rfl, b0⟩ := wf8 q0
  obtain ⟨v1, rfl, b1⟩ := wf8 q1
  obtain ⟨v2, rfl, b2⟩ := wf8 q2
  have HW := Lib.hid hw
  have HH := Lib.hid hh
  have TT := Lib.hid hT
  have G0 := Lib.hid ((Gr.refl w).alloc (.cells #[.int .u8 v0, .int .u8 v1, .int .u8 v2] 36))
  by_cases h40 : 40 < n
  · have S := Lib.hid (Sane_any _ (TT.out.gr G0.out))
    have t1 : decide (40 < n) = true := by simpa using h40
    clear hw hh hT
    go_enter Tryd.func5, Tryd.ntmps5
    go_wp2_with (first
      | (go_at_call 15; refine (Long_any adr n cc _ hn).mono ?_; rintro e w1 ⟨rfl, rfl⟩; rw [t1])
      | (go_at_call 16; refine S.out.mono ?_; rintro e w2 ⟨rfl, g2⟩))
    go_ret
    exact ⟨rfl, G0.out.trans g2⟩
  · cases hv : vH n P T with
    | true => exact walk_ok adr n cc P T v0 v1 v2 w (vH_iff.1 hv) hw hh hT b0 b1 b2
    | false =>
      have t1 : decide (40 < n) = false := by simpa using h40
      have CV := Lib.hid (fun w hr => by have := (refValid_any adr n cc P T w (by omega) hr).mono fun _ _ h => h.b; rw [hv] at this; exact this)
      clear hw hh hT hv
      go_enter Tryd.func5, Tryd.ntmps5
      go_wp2_with (first
        | (go_at_call 15; refine (Long_any adr n cc _ hn).mono ?_; rintro e w1 ⟨rfl, rfl⟩; rw [t1])
        | (go_at_call 27; refine (CV.out _ (HH.out.gr G0.out)).mono ?_; rintro e w1 ⟨rfl, g1⟩; have G1 := Lib.hid (G0.out.trans g1); clear g1)
        | (go_at_call 16; refine (Sane_any _ (TT.out.gr G1.out)).mono ?_; rintro e w2 ⟨rfl, g2⟩))
      go_ret
      exact ⟨rfl, G1.out.trans g2⟩

set_option maxRecDepth 100000 in
theorem contract (H : Type) (enc : TypeId × Value → H) (W : World) (base : Nat) (args : Array Value) (ds gs : List (DataW H)) (before : List MemPlace)
    (hval0 : ∀ (j : Nat) t v, Tryd.f5.params[j]? = some t → args[j]? = some v → Value.okWide Tryd.prog W .any base t v)
    (hW : DataW.Whole enc Tryd.prog Tryd.f5.params.toList Rows.coneOrdersSpec.vars false W args.toList ds gs before) (hL : laidMetH Tryd.prog Rows.coneOrdersRow.laid W) :
    Calls Tryd.prog 5 args W fun e W' => ∃ v, e = .returned v ∧ Rows.coneOrdersSpec.post enc Tryd.prog Tryd.f5 false true false false W args v W' := by
  have hval : ∀ (j : Nat) t v, Tryd.f5.params[j]? = some t → args[j]? = some v → Value.okWide Tryd.prog W .any base t v := hval0
  have hW' := hW
  obtain ⟨p, q, hA0, hV, rfl, hfz, hnd⟩ := hW
  have hA : DataW.TrodAll enc Tryd.prog W 0 (fun _ => true) true Tryd.f5.params.toList args.toList ds p := hA0
  rw [Tryd.params5] at hA hval
  obtain ⟨v0, vs0, d0, ds0, p0, q0, hargs, rfl, rfl, h0, r0⟩ := trodAll_cons hA
  obtain ⟨v1, vs1, d1, ds1, p1, q1, rfl, rfl, rfl, h1, r1⟩ := trodAll_cons r0
  obtain ⟨rfl, rfl, rfl⟩ := trodAll_nil r1
  obtain rfl : args = #[v0, v1] := by cases args; simp_all
  obtain ⟨rfl, rfl⟩ := trodVars_none hV
  obtain ⟨a0, len0, cap0, rfl⟩ := okWide_slice Tryd.underlying22 (hval 0 22 v0 rfl rfl)
  have k0 := h0
  have lt0 : ∀ x ∈ p0, x.block < W.heap.size := by obtain ⟨m, hm⟩ := k0; exact DataW.trod_lt m _ _ _ hm
  obtain ⟨x0, y0, wn0, wf0, wr0⟩ : ∃ f g : Nat → Int, len0 ≤ 9223372036854775807 ∧ (∀ i, i < len0 → (Lit.int .i64 (f i)).wf = true ∧ (Lit.int .i64 (g i)).wf = true) ∧ RdM W a0 len0 f g := by
    obtain ⟨fuel, hf⟩ := h0
    exact RdM.of_trod Tryd.underlying22 Tryd.underlying51 (by kernel_rfl) ⟨rfl, rfl⟩ ⟨rfl, rfl⟩ (by kernel_rfl) Tryd.underlying3 hf
  have k1 := h1
  have lt1 : ∀ x ∈ p1, x.block < W.heap.size := by obtain ⟨m, hm⟩ := k1; exact DataW.trod_lt m _ _ _ hm
  obtain ⟨x1_0, x1_1, x1_2, rfl, w1_0, w1_1, w1_2⟩ := open_arr3 (q := .u8) Tryd.underlying36 Tryd.underlying5 (by kernel_rfl) (by kernel_rfl) (hval 1 36 v1 rfl rfl) h1
  clear hA0 hval0
  refine (walk a0 len0 cap0 x0 y0 x1_0 x1_1 x1_2 W wn0 wf0 wr0 w1_0 w1_1 w1_2 (tab_of hL)).mono fun e W' ⟨he, bel⟩ => ?_
  subst he
  exact ⟨_, rfl, _, _, _, [], _, [], hW', trodAll_mk1 (shut_bool Tryd.underlying4 _), (trodAll_cons_mk (Below.trod laidOut (by kernel_rfl) (of_decide_eq_true (by kernel_rfl)) k0 bel lt0) (trodAll_cons_mk (Below.trod laidOut (by kernel_rfl) (of_decide_eq_true (by kernel_rfl)) k1 bel lt1) trodAll_mk0)), rfl, bel.frame _, fun h => by cases h⟩

set_option maxRecDepth 100000 in
theorem met (os : Os) : laidMet Tryd.prog Rows.coneOrdersRow.laid ((laidWorld os).forCall (fun _ _ => 0) ⟨#[], #[.slice none 0 0, .agg #[.int .u8 0, .int .u8 0, .int .u8 0]], []⟩).memory :=
  laidMet_of_run' 8 (by kernel_rfl) (by kernel_rfl)
set_option maxRecDepth 100000 in
theorem reads (os : Os) (H : Type) (enc : TypeId × Value → H) : ∃ places, DataW.whole enc Tryd.prog ((laidWorld os).forCall (fun _ _ => 0) ⟨#[], #[.slice none 0 0, .agg #[.int .u8 0, .int .u8 0, .int .u8 0]], []⟩).memory Tryd.f5.params.toList Rows.coneOrdersSpec.vars false (#[.slice none 0 0, .agg #[.int .u8 0, .int .u8 0, .int .u8 0]] : Array Value).toList 8 = some ([.nil, .agg [.lit (.int .u8 0), .lit (.int .u8 0), .lit (.int .u8 0)]], [], places) :=
  ⟨[], by kernel_rfl⟩

set_option maxRecDepth 100000 in
theorem lifted (os : Os) (started : os.Started) (H : Type) (enc : TypeId × Value → H) (F : Stop.Interp) :
    ReturnsInHanded {} Tryd.checked os 5 .any ((OpenSpec.ofChange Rows.coneOrdersSpec).preRow enc Tryd.prog Tryd.f5 Rows.coneOrdersRow.domain false Rows.coneOrdersRow.laid) (((OpenSpec.ofChange Rows.coneOrdersSpec).at F).post enc Tryd.prog Tryd.f5 false true false false) := by
  obtain ⟨places, hx⟩ := reads os H enc
  refine returnsInHanded_of_row (C := Tryd.checked) (s := OpenSpec.ofChange Rows.coneOrdersSpec) own started (by kernel_rfl) Tryd.func5
    (witness_row_at (enc := enc) (C := Tryd.checked) false (laidWorld os) #[.slice none 0 0, .agg #[.int .u8 0, .int .u8 0, .int .u8 0]] rfl (by kernel_rfl) (by kernel_rfl) (by kernel_rfl)
      (OpenSpec.preRow_of_cond 8 hx (by kernel_rfl) (fun k hk => by cases hk) (by kernel_rfl) (met os))) ?_
  intro W base args ds gs before hval hW _ _ _ hL _ _
  exact contract H enc W base args ds gs before hval hW hL

theorem said : Rows.ConeOrdersSaid :=
  OpenClaim.holds_of_cond 5 Tryd.f5 rfl rfl rfl rfl rfl rfl rfl ⟨rfl, rfl, rfl, rfl, rfl⟩ rfl rfl rfl rfl rfl (by kernel_rfl) Tryd.func5 (by kernel_rfl)
    (of_decide_eq_true (by kernel_rfl)) (by unfold Func.isWrapper; first | (rw [if_pos (by decide +kernel)]; kernel_rfl) | (rw [if_neg (by decide +kernel)]; exact ⟨rfl, rfl⟩))
    (fun os started H enc _ F => by rw [OpenClaim.pre_eq_preRow]; exact lifted os started H enc F)

set_option maxRecDepth 100000 in
theorem plain (f : FuncId) (fn : Func) (hf : Tryd.pinned.checked.prog.funcNamed Rows.coneOrdersRow.func = some f) (hfn : Tryd.pinned.checked.prog.funcs[f]? = some fn) :
    false = Tryd.pinned.checked.prog.looks [] ∧ ∀ (j : Nat) t, fn.params[j]? = some t → Tryd.pinned.checked.prog.wantsStandIn t = false := by
  obtain rfl : f = 5 := Option.some.inj ((show Tryd.prog.funcNamed Rows.coneOrdersRow.func = some 5 by kernel_rfl).symm.trans hf) |>.symm
  obtain rfl : fn = Tryd.f5 := (Option.some.inj (Tryd.func5.symm.trans hfn)).symm
  refine ⟨by kernel_rfl, fun j t ht => ?_⟩
  rw [Tryd.params5] at ht
  have hm : t ∈ (#[22, 36] : Array TypeId) := Array.mem_of_getElem? ht
  simp only [List.mem_toArray, List.mem_cons, List.not_mem_nil, or_false] at hm
  rcases hm with rfl | rfl
  all_goals first
    | exact (show Tryd.prog.wantsStandIn 22 = false by kernel_rfl)
    | exact (show Tryd.prog.wantsStandIn 36 = false by kernel_rfl)

/-- The statement. -/
theorem proved : Rows.ConeOrdersCardSaid :=
  Claim7.holds_tied_plain_at .later [] _ _ _ _ said (fun _ h => by cases h) (by kernel_rfl) (fun _ h => by cases h) coneOrders_row_tie rfl ⟨rfl, rfl⟩ (by kernel_rfl) rfl plain (by kernel_rfl)
end Go.Proofs.YthgbnjndljjbgaaDoor.coneOrders
