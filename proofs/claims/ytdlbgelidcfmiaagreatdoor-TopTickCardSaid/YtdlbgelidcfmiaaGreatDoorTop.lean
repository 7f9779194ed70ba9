/- Proved: TopTick returns true at every input, and its arguments read afterwards as before, tied to the program's text. Conditions: none. -/
import Derived.Test.YtdlbgelidcfmiaaGreatDoorTop0
namespace Go.Firn
theorem IsRow.cap {w : World} {a : Option Addr} {len cap : Nat} {zs : List Int} (h : IsRow w a len cap zs) : len ≤ cap := by
  rcases h with ⟨_, rfl, rfl, _⟩ | ⟨x, _, hl, _⟩
  · exact Nat.le_refl _
  · exact hl
end Go.Firn
namespace Go.Proofs.YtdlbgelidcfmiaaGreatDoor.topTick
open Go.ChangeShapes Go.WideShapes Go.ChangeAt Go.RowKit Go.Firn

set_option maxHeartbeats 8000000 in
theorem walk (b : Int) (a1 : Option Addr) (nr c1 : Nat) (f : Nat → Int) (a2 : Option Addr) (n c2 : Nat) (x2 y2 : Nat → Int) (a3 : Option Addr) (n' c3 : Nat) (x3 y3 : Nat → Int) (lo sp : Int) (w : World)
    (_hb : (Lit.int .i64 b).wf = true) (hn1 : nr ≤ 9223372036854775807) (_hc1 : nr ≤ c1) (hr1 : RdI w a1 nr f)
    (hn2 : n ≤ 9223372036854775807) (_hf2 : ∀ i, i < n → (Lit.int .i64 (x2 i)).wf = true ∧ (Lit.int .i64 (y2 i)).wf = true) (hr2 : RdM w a2 n x2 y2)
    (hn3 : n' ≤ 9223372036854775807) (_hf3 : ∀ i, i < n' → (Lit.int .i64 (x3 i)).wf = true ∧ (Lit.int .i64 (y3 i)).wf = true) (hr3 : RdM w a3 n' x3 y3)
    (hlo : (Lit.int .u32 lo).wf = true) (hsp : (Lit.int .u8 sp).wf = true) (hT : Pow10 w) (hEr : Errs w) :
    Calls Tryz.prog 3 #[.int .i64 b, .slice a1 nr c1, .slice a2 n c2, .slice a3 n' c3, .int .u32 lo, .int .u8 sp] w (RetB true w) := by
  have l : 0 ≤ lo ∧ lo ≤ 4294967295 := by
    unfold Lit.wf at hlo
    simp [IntKind.min, IntKind.max, IntKind.signed, IntKind.bits] at hlo
    omega
  have s : 0 ≤ sp ∧ sp ≤ 255 := by
    unfold Lit.wf at hsp
    simp [IntKind.min, IntKind.max, IntKind.signed, IntKind.bits] at hsp
    omega
  by_cases h0 : (nr : Int) > 200
  · exact early_0 b lo sp a1 a2 a3 nr c1 n c2 n' c3 w h0
  have P1 := fun wx => Long_any a2 n c2 wx hn2
  have P2 := fun wx => Long_any a3 n' c3 wx hn3
  by_cases h1 : 100 < n
  · rw [decide_eq_true h1] at P1
    exact early_1 b lo sp a1 a2 a3 nr c1 n c2 n' c3 w h0 (Lib.hid P1)
  rw [decide_eq_false h1] at P1
  by_cases h2 : 100 < n'
  · rw [decide_eq_true h2] at P2
    exact early_2 b lo sp a1 a2 a3 nr c1 n c2 n' c3 w h0 (Lib.hid P1) (Lib.hid P2)
  rw [decide_eq_false h2] at P2
  have hw2 : RdM w a2 (lsC x2 y2 n).length (px (lsC x2 y2 n)) (py (lsC x2 y2 n)) := by
    rw [lsC_len]
    exact hr2.congr fun i hi => lsC_at hi
  have hl : n = (lsC x2 y2 n).length := (lsC_len x2 y2 n).symm
  generalize lsC x2 y2 n = C at *
  subst hl
  have P7 := fun wx (k : Gr w wx) => refValidReadings_any b a1 nr c1 f wx hn1 (hr1.gr k)
  have Pc := fun wx (k : Gr w wx) => refValidClock_any a2 C.length c2 (px C) (py C) wx hn2 (hw2.gr k)
  have Pd := fun wx (k : Gr w wx) => refValidClock_any a3 n' c3 x3 y3 wx hn3 (hr3.gr k)
  have P6 := fun wx (k : Gr w wx) => Counts_any b a1 nr c1 f wx hn1 (hr1.gr k)
  have xx : 0 ≤ lo % 100001 ∧ lo % 100001 ≤ 100000 := by omega
  have big : vK C.length (px C) (py C) = true → vK n' x3 y3 = true → Calls Tryz.prog 3 #[.int .i64 b, .slice a1 nr c1, .slice a2 C.length c2, .slice a3 n' c3, .int .u32 lo, .int .u8 sp] w (RetB true w) := by
    intro hv hv'
    rw [hv] at Pc
    rw [hv'] at Pd
    have F13 := fun wx (k : Gr w wx) => Format_any a2 c2 C wx (hT.gr k) hn2 (hw2.gr k)
    rw [show vMk C = true from hv] at F13
    have F15 := fun wx (k : Gr w wx) => Parse_any (bA (txC C)) wx (by rw [bA_size]; have := tx_size (Mks.of hv) C.length; rw [List.take_length] at this; omega) (hT.gr k) (hEr.gr k)
    rw [bA_list, prO_text hv] at F15
    obtain ⟨D11, D12, D14, D14s, D16s, D16i⟩ := top_clock hv xx
    obtain ⟨m1, p, q1, bb, e1, e2, D19a, D18a, D18b⟩ := top_two hv hv' (x := lo % 100001) (y := min (lo % 100001 + sp) 100000) (by omega) (by omega) (by omega)
    obtain ⟨m2, q2, D19b⟩ := top_straight hv (x := lo % 100001) (y := min (lo % 100001 + sp) 100000) (by omega) (by omega) (by omega)
    have D14d := (top_clock hv' xx).2.2.1
    have D17 : ∀ a a' c c' w, RdM w a C.length (px C) (py C) → RdM w a' C.length (px C) (py C) → Calls Tryz.prog 17 #[.slice a C.length c, .slice a' C.length c'] w (RetB true w) := fun a a' c c' w h h' => by
      have h := Equal_q a a' C.length c C.length c' (px C) (py C) (px C) (py C) w hn2 hn2 h h'
      rw [eqM_true.2 ⟨rfl, fun _ _ => ⟨rfl, rfl⟩⟩] at h
      refine Calls.mono h ?_
      rintro e w' ⟨rfl, m, rfl⟩
      exact ⟨rfl, (Gr.refl w).drewN m⟩
    by_cases hp : p = 0
    · subst hp
      obtain ⟨t1, t2⟩ := e2 rfl
      rw [← t1, ← t2] at D14d
      cases bb with
      | true =>
        cases hr : vR b nr f with
        | true =>
          rw [hr] at P7
          obtain ⟨D6, D8, D9⟩ := top_counts hr
          exact walk_tT0 b lo sp a1 a2 a3 nr c1 C.length c2 n' c3 _ f _ (px C) (py C) x3 y3 _ _ _ w (Lib.hid P1) (Lib.hid P2) (Lib.hid D6) (Lib.hid D8) (Lib.hid D9) (Lib.hid hr1) (Lib.hid P7) (Lib.hid Pc) (Lib.hid Pd) (Lib.hid hw2) (Lib.hid hr3) (Lib.hid D11) (Lib.hid D12) (Lib.hid F13) (Lib.hid D14) (Lib.hid D14s) (Lib.hid D14d) (Lib.hid F15) (Lib.hid D16s) (Lib.hid D16i) (Lib.hid D17) (Lib.hid D18a) (Lib.hid D18b) (Lib.hid D19a) (Lib.hid D19b) h0 l.1 l.2 s.1 s.2
        | false =>
          rw [hr] at P6 P7
          have hE : ¬ errOf b false = 0 := by unfold errOf; split <;> simp
          exact walk_fT0 b lo sp a1 a2 a3 nr c1 C.length c2 n' c3 _ _ (px C) (py C) x3 y3 _ _ _ w (Lib.hid P1) (Lib.hid P2) (Lib.hid P6) hE (by simpa using hE) (Lib.hid P7) (Lib.hid Pc) (Lib.hid Pd) (Lib.hid hw2) (Lib.hid hr3) (Lib.hid D11) (Lib.hid D12) (Lib.hid F13) (Lib.hid D14) (Lib.hid D14s) (Lib.hid D14d) (Lib.hid F15) (Lib.hid D16s) (Lib.hid D16i) (Lib.hid D17) (Lib.hid D18a) (Lib.hid D18b) (Lib.hid D19a) (Lib.hid D19b) h0 l.1 l.2 s.1 s.2
      | false =>
        cases hr : vR b nr f with
        | true =>
          rw [hr] at P7
          obtain ⟨D6, D8, D9⟩ := top_counts hr
          exact walk_tF0 b lo sp a1 a2 a3 nr c1 C.length c2 n' c3 _ f _ (px C) (py C) x3 y3 _ _ _ w (Lib.hid P1) (Lib.hid P2) (Lib.hid D6) (Lib.hid D8) (Lib.hid D9) (Lib.hid hr1) (Lib.hid P7) (Lib.hid Pc) (Lib.hid Pd) (Lib.hid hw2) (Lib.hid hr3) (Lib.hid D11) (Lib.hid D12) (Lib.hid F13) (Lib.hid D14) (Lib.hid D14s) (Lib.hid D14d) (Lib.hid F15) (Lib.hid D16s) (Lib.hid D16i) (Lib.hid D17) (Lib.hid D18a) (Lib.hid D18b) (Lib.hid D19a) (Lib.hid D19b) h0 l.1 l.2 s.1 s.2
        | false =>
          rw [hr] at P6 P7
          have hE : ¬ errOf b false = 0 := by unfold errOf; split <;> simp
          exact walk_fF0 b lo sp a1 a2 a3 nr c1 C.length c2 n' c3 _ _ (px C) (py C) x3 y3 _ _ _ w (Lib.hid P1) (Lib.hid P2) (Lib.hid P6) hE (by simpa using hE) (Lib.hid P7) (Lib.hid Pc) (Lib.hid Pd) (Lib.hid hw2) (Lib.hid hr3) (Lib.hid D11) (Lib.hid D12) (Lib.hid F13) (Lib.hid D14) (Lib.hid D14s) (Lib.hid D14d) (Lib.hid F15) (Lib.hid D16s) (Lib.hid D16i) (Lib.hid D17) (Lib.hid D18a) (Lib.hid D18b) (Lib.hid D19a) (Lib.hid D19b) h0 l.1 l.2 s.1 s.2
    · have hbb : bb = false := by
        cases bb with
        | false => rfl
        | true => exact absurd (e1 rfl) hp
      subst hbb
      cases hr : vR b nr f with
      | true =>
        rw [hr] at P7
        obtain ⟨D6, D8, D9⟩ := top_counts hr
        exact walk_tFN b lo sp a1 a2 a3 nr c1 C.length c2 n' c3 _ f _ (px C) (py C) x3 y3 _ _ _ w (Lib.hid P1) (Lib.hid P2) (Lib.hid D6) (Lib.hid D8) (Lib.hid D9) (Lib.hid hr1) (Lib.hid P7) (Lib.hid Pc) (Lib.hid Pd) (Lib.hid hw2) (Lib.hid hr3) (Lib.hid D11) (Lib.hid D12) (Lib.hid F13) (Lib.hid D14) (Lib.hid D14s) (Lib.hid D14d) (Lib.hid F15) (Lib.hid D16s) (Lib.hid D16i) (Lib.hid D17) (Lib.hid D18a) (Lib.hid D18b) (Lib.hid D19a) (Lib.hid D19b) hp (by simpa using hp) h0 l.1 l.2 s.1 s.2
      | false =>
        rw [hr] at P6 P7
        have hE : ¬ errOf b false = 0 := by unfold errOf; split <;> simp
        exact walk_fFN b lo sp a1 a2 a3 nr c1 C.length c2 n' c3 _ _ (px C) (py C) x3 y3 _ _ _ w (Lib.hid P1) (Lib.hid P2) (Lib.hid P6) hE (by simpa using hE) (Lib.hid P7) (Lib.hid Pc) (Lib.hid Pd) (Lib.hid hw2) (Lib.hid hr3) (Lib.hid D11) (Lib.hid D12) (Lib.hid F13) (Lib.hid D14) (Lib.hid D14s) (Lib.hid D14d) (Lib.hid F15) (Lib.hid D16s) (Lib.hid D16i) (Lib.hid D17) (Lib.hid D18a) (Lib.hid D18b) (Lib.hid D19a) (Lib.hid D19b) hp (by simpa using hp) h0 l.1 l.2 s.1 s.2
  cases hv : vK C.length (px C) (py C) with
  | true =>
    cases hv' : vK n' x3 y3 with
    | true => exact big hv hv'
    | false =>
      rw [hv] at Pc
      rw [hv'] at Pd
      cases hr : vR b nr f with
      | true =>
        rw [hr] at P7
        obtain ⟨D6, D8, D9⟩ := top_counts hr
        exact mid_td b lo sp a1 a2 a3 nr c1 C.length c2 n' c3 f _ w (Lib.hid P1) (Lib.hid P2) (Lib.hid D6) (Lib.hid D8) (Lib.hid D9) (Lib.hid hr1) (Lib.hid P7) (Lib.hid Pc) (Lib.hid Pd) h0
      | false =>
        rw [hr] at P6 P7
        have hE : ¬ errOf b false = 0 := by unfold errOf; split <;> simp
        exact mid_fd b lo sp a1 a2 a3 nr c1 C.length c2 n' c3 _ w (Lib.hid P1) (Lib.hid P2) (Lib.hid P6) hE (by simpa using hE) (Lib.hid P7) (Lib.hid Pc) (Lib.hid Pd) h0
  | false =>
    rw [hv] at Pc
    cases hr : vR b nr f with
    | true =>
      rw [hr] at P7
      obtain ⟨D6, D8, D9⟩ := top_counts hr
      exact mid_tc b lo sp a1 a2 a3 nr c1 C.length c2 n' c3 f _ w (Lib.hid P1) (Lib.hid P2) (Lib.hid D6) (Lib.hid D8) (Lib.hid D9) (Lib.hid hr1) (Lib.hid P7) (Lib.hid Pc) h0
    | false =>
      rw [hr] at P6 P7
      have hE : ¬ errOf b false = 0 := by unfold errOf; split <;> simp
      exact mid_fc b lo sp a1 a2 a3 nr c1 C.length c2 n' c3 _ w (Lib.hid P1) (Lib.hid P2) (Lib.hid P6) hE (by simpa using hE) (Lib.hid P7) (Lib.hid Pc) h0

set_option maxRecDepth 100000 in
theorem contract (H : Type) (enc : TypeId × Value → H) (W : World) (base : Nat) (args : Array Value) (ds gs : List (DataW H)) (before : List MemPlace)
    (hval0 : ∀ (j : Nat) t v, Tryz.f3.params[j]? = some t → args[j]? = some v → Value.okWide Tryz.prog W .any base t v)
    (hW : DataW.Whole enc Tryz.prog Tryz.f3.params.toList Rows.topTickSpec.vars false W args.toList ds gs before) (hL : laidMetH Tryz.prog Rows.topTickRow.laid W) :
    Calls Tryz.prog 3 args W fun e W' => ∃ v, e = .returned v ∧ Rows.topTickSpec.post enc Tryz.prog Tryz.f3 false true false false W args v W' := by
  have hval : ∀ (j : Nat) t v, Tryz.f3.params[j]? = some t → args[j]? = some v → Value.okWide Tryz.prog W .any base t v := hval0
  have hW' := hW
  obtain ⟨p, q, hA0, hV, rfl, hfz, hnd⟩ := hW
  have hA : DataW.TrodAll enc Tryz.prog W 0 (fun _ => true) true Tryz.f3.params.toList args.toList ds p := hA0
  rw [Tryz.params3] at hA hval
  obtain ⟨v0, vs0, d0, ds0, p0, q0, hargs, rfl, rfl, h0, r0⟩ := trodAll_cons hA
  obtain ⟨v1, vs1, d1, ds1, p1, q1, rfl, rfl, rfl, h1, r1⟩ := trodAll_cons r0
  obtain ⟨v2, vs2, d2, ds2, p2, q2, rfl, rfl, rfl, h2, r2⟩ := trodAll_cons r1
  obtain ⟨v3, vs3, d3, ds3, p3, q3, rfl, rfl, rfl, h3, r3⟩ := trodAll_cons r2
  obtain ⟨v4, vs4, d4, ds4, p4, q4, rfl, rfl, rfl, h4, r4⟩ := trodAll_cons r3
  obtain ⟨v5, vs5, d5, ds5, p5, q5, rfl, rfl, rfl, h5, r5⟩ := trodAll_cons r4
  obtain ⟨rfl, rfl, rfl⟩ := trodAll_nil r5
  obtain rfl : args = #[v0, v1, v2, v3, v4, v5] := by cases args; simp_all
  obtain ⟨rfl, rfl⟩ := trodVars_none hV
  obtain ⟨a0, rfl, rfl, rfl, w0⟩ := open_int Tryz.underlying3 (hval 0 3 v0 rfl rfl) h0
  obtain ⟨a1, len1, cap1, rfl⟩ := okWide_slice Tryz.underlying22 (hval 1 22 v1 rfl rfl)
  have k1 := h1
  have lt1 : ∀ x ∈ p1, x.block < W.heap.size := by obtain ⟨m, hm⟩ := k1; exact DataW.trod_lt m _ _ _ hm
  obtain ⟨z1, w1⟩ : ∃ zs, IsRow W a1 len1 cap1 zs := by
    obtain ⟨fuel, hf⟩ := h1
    rcases open_ints Tryz.underlying22 Tryz.underlying3 (by kernel_rfl) hf with ⟨hcs, _⟩ | ⟨x, l, c, zs, hcs, _, hl, hm, hz, _, hcell, hwz⟩
    · simp [Value.cells] at hcs
      obtain ⟨rfl, rfl, rfl⟩ := hcs
      exact ⟨[], .inl ⟨rfl, rfl, rfl, rfl⟩⟩
    · simp [Value.cells] at hcs
      obtain ⟨rfl, rfl, rfl⟩ := hcs
      exact ⟨zs, .inr ⟨_, rfl, hl, hm, by simpa using hz, hcell, hwz⟩⟩
  obtain ⟨a2, len2, cap2, rfl⟩ := okWide_slice Tryz.underlying23 (hval 2 23 v2 rfl rfl)
  have k2 := h2
  have lt2 : ∀ x ∈ p2, x.block < W.heap.size := by obtain ⟨m, hm⟩ := k2; exact DataW.trod_lt m _ _ _ hm
  obtain ⟨x2, y2, wn2, wf2, wr2⟩ : ∃ f g : Nat → Int, len2 ≤ 9223372036854775807 ∧ (∀ i, i < len2 → (Lit.int .i64 (f i)).wf = true ∧ (Lit.int .i64 (g i)).wf = true) ∧ RdM W a2 len2 f g := by
    obtain ⟨fuel, hf⟩ := h2
    exact RdM.of_trod Tryz.underlying23 Tryz.underlying55 (by kernel_rfl) ⟨rfl, rfl⟩ ⟨rfl, rfl⟩ (by kernel_rfl) Tryz.underlying3 hf
  obtain ⟨a3, len3, cap3, rfl⟩ := okWide_slice Tryz.underlying23 (hval 3 23 v3 rfl rfl)
  have k3 := h3
  have lt3 : ∀ x ∈ p3, x.block < W.heap.size := by obtain ⟨m, hm⟩ := k3; exact DataW.trod_lt m _ _ _ hm
  obtain ⟨x3, y3, wn3, wf3, wr3⟩ : ∃ f g : Nat → Int, len3 ≤ 9223372036854775807 ∧ (∀ i, i < len3 → (Lit.int .i64 (f i)).wf = true ∧ (Lit.int .i64 (g i)).wf = true) ∧ RdM W a3 len3 f g := by
    obtain ⟨fuel, hf⟩ := h3
    exact RdM.of_trod Tryz.underlying23 Tryz.underlying55 (by kernel_rfl) ⟨rfl, rfl⟩ ⟨rfl, rfl⟩ (by kernel_rfl) Tryz.underlying3 hf
  obtain ⟨a4, rfl, rfl, rfl, w4⟩ := open_int Tryz.underlying24 (hval 4 24 v4 rfl rfl) h4
  obtain ⟨a5, rfl, rfl, rfl, w5⟩ := open_int Tryz.underlying5 (hval 5 5 v5 rfl rfl) h5
  clear hA0 hval0
  refine (walk a0 a1 len1 cap1 _ a2 len2 cap2 x2 y2 a3 len3 cap3 x3 y3 a4 a5 W w0 w1.rd.1 w1.cap w1.rd.2 wn2 wf2 wr2 wn3 wf3 wr3 w4 w5 (pow_of hL) (errs_of hL)).mono fun e W' ⟨he, bel⟩ => ?_
  subst he
  exact ⟨_, rfl, _, _, _, [], _, [], hW', trodAll_mk1 (shut_bool Tryz.underlying4 _), (trodAll_cons_mk (shut_int Tryz.underlying3 w0) (trodAll_cons_mk (Below.trod laidOut (by kernel_rfl) (of_decide_eq_true (by kernel_rfl)) k1 bel lt1) (trodAll_cons_mk (Below.trod laidOut (by kernel_rfl) (of_decide_eq_true (by kernel_rfl)) k2 bel lt2) (trodAll_cons_mk (Below.trod laidOut (by kernel_rfl) (of_decide_eq_true (by kernel_rfl)) k3 bel lt3) (trodAll_cons_mk (shut_int Tryz.underlying24 w4) (trodAll_cons_mk (shut_int Tryz.underlying5 w5) trodAll_mk0)))))), rfl, bel.frame _, fun h => by cases h⟩

set_option maxRecDepth 100000 in
theorem met (os : Os) : laidMet Tryz.prog Rows.topTickRow.laid ((laidWorldT os).forCall (fun _ _ => 0) ⟨#[], #[.int .i64 0, .slice none 0 0, .slice none 0 0, .slice none 0 0, .int .u32 0, .int .u8 0], []⟩).memory :=
  laidMet_of_run' 8 (by kernel_rfl) (by kernel_rfl)
set_option maxRecDepth 100000 in
theorem reads (os : Os) (H : Type) (enc : TypeId × Value → H) : ∃ places, DataW.whole enc Tryz.prog ((laidWorldT os).forCall (fun _ _ => 0) ⟨#[], #[.int .i64 0, .slice none 0 0, .slice none 0 0, .slice none 0 0, .int .u32 0, .int .u8 0], []⟩).memory Tryz.f3.params.toList Rows.topTickSpec.vars false (#[.int .i64 0, .slice none 0 0, .slice none 0 0, .slice none 0 0, .int .u32 0, .int .u8 0] : Array Value).toList 8 = some ([.lit (.int .i64 0), .nil, .nil, .nil, .lit (.int .u32 0), .lit (.int .u8 0)], [], places) :=
  ⟨[], by kernel_rfl⟩

set_option maxRecDepth 100000 in
theorem lifted (os : Os) (started : os.Started) (H : Type) (enc : TypeId × Value → H) (F : Stop.Interp) :
    ReturnsInHanded {} Tryz.checked os 3 .any ((OpenSpec.ofChange Rows.topTickSpec).preRow enc Tryz.prog Tryz.f3 Rows.topTickRow.domain false Rows.topTickRow.laid) (((OpenSpec.ofChange Rows.topTickSpec).at F).post enc Tryz.prog Tryz.f3 false true false false) := by
  obtain ⟨places, hx⟩ := reads os H enc
  refine returnsInHanded_of_row (C := Tryz.checked) (s := OpenSpec.ofChange Rows.topTickSpec) own started (by kernel_rfl) Tryz.func3
    (witness_row_at (enc := enc) (C := Tryz.checked) false (laidWorldT os) #[.int .i64 0, .slice none 0 0, .slice none 0 0, .slice none 0 0, .int .u32 0, .int .u8 0] rfl (by kernel_rfl) (by kernel_rfl) (by kernel_rfl)
      (OpenSpec.preRow_of_cond 8 hx (by kernel_rfl) (fun k hk => by cases hk) (by kernel_rfl) (met os))) ?_
  intro W base args ds gs before hval hW _ _ _ hL _ _
  exact contract H enc W base args ds gs before hval hW hL

theorem said : Rows.TopTickSaid :=
  OpenClaim.holds_of_cond 3 Tryz.f3 rfl rfl rfl rfl rfl rfl rfl ⟨rfl, rfl, rfl, rfl, rfl⟩ rfl rfl rfl rfl rfl (by kernel_rfl) Tryz.func3 (by kernel_rfl)
    (of_decide_eq_true (by kernel_rfl)) (by unfold Func.isWrapper; first | (rw [if_pos (by decide +kernel)]; kernel_rfl) | (rw [if_neg (by decide +kernel)]; exact ⟨rfl, rfl⟩))
    (fun os started H enc _ F => by rw [OpenClaim.pre_eq_preRow]; exact lifted os started H enc F)

set_option maxRecDepth 100000 in
theorem plain (f : FuncId) (fn : Func) (hf : Tryz.pinned.checked.prog.funcNamed Rows.topTickRow.func = some f) (hfn : Tryz.pinned.checked.prog.funcs[f]? = some fn) :
    true = Tryz.pinned.checked.prog.looks [] ∧ ∀ (j : Nat) t, fn.params[j]? = some t → Tryz.pinned.checked.prog.wantsStandIn t = false := by
  obtain rfl : f = 3 := Option.some.inj ((show Tryz.prog.funcNamed Rows.topTickRow.func = some 3 by kernel_rfl).symm.trans hf) |>.symm
  obtain rfl : fn = Tryz.f3 := (Option.some.inj (Tryz.func3.symm.trans hfn)).symm
  refine ⟨by kernel_rfl, fun j t ht => ?_⟩
  rw [Tryz.params3] at ht
  have hm : t ∈ (#[3, 22, 23, 23, 24, 5] : Array TypeId) := Array.mem_of_getElem? ht
  simp only [List.mem_toArray, List.mem_cons, List.not_mem_nil, or_false] at hm
  rcases hm with rfl | rfl | rfl | rfl | rfl | rfl
  all_goals first
    | exact (show Tryz.prog.wantsStandIn 3 = false by kernel_rfl)
    | exact (show Tryz.prog.wantsStandIn 22 = false by kernel_rfl)
    | exact (show Tryz.prog.wantsStandIn 23 = false by kernel_rfl)
    | exact (show Tryz.prog.wantsStandIn 24 = false by kernel_rfl)
    | exact (show Tryz.prog.wantsStandIn 5 = false by kernel_rfl)

/-- The statement. -/
theorem proved : Rows.TopTickCardSaid :=
  Claim7.holds_tied_plain_at .later [] _ _ _ _ said (fun _ h => by cases h) (by kernel_rfl) (fun _ h => by cases h) topTick_row_tie rfl ⟨rfl, rfl⟩ (by kernel_rfl) rfl plain (by kernel_rfl)
end Go.Proofs.YtdlbgelidcfmiaaGreatDoor.topTick
