/- Contracts of chapter 5: whether some int of a list is so; whether weights prove a cost, of the program. Contracts of chapter 5: whether weights prove a cost, of the reference. -/
import Derived.Test.YtbhndfnfohoidaaPE
import Derived.Test.YtbhndfnfohoidaaWB
namespace Go.Proofs.Ytbhndfnfohoidaa
open Go.RowKit Go.Firn

/-- A weight is out of range. -/
def outW (m x : Int) : Bool := !btw (-m) x m
theorem Proves1_any (x m : Int) (bs : Nat) (w : World) (hm : 0 ≤ m ∧ m ≤ 10000) (hb : w.cell? ⟨bs, 0, none⟩ = some (.int .i64 m)) :
    Calls Try.prog 79 #[.int .i64 x, .pointer (some ⟨bs, 0, none⟩)] w (RetB (outW m x) w) := by
  have w1' : IntKind.i64.wrap (-m) = -m := IntWalk.i64_in _ (by omega)
  have g1 := Gr.refl w
  go_enter Try.func79, Try.ntmps79
  go_wp2_with (go_at_call 70; (with_reducible refine (between_any (-m) x m _).mono ?_); rintro e w1 ⟨rfl, rfl⟩)
  go_ret
  exact ⟨rfl, g1⟩

theorem IndexFuncI_any (F : Nat) (u : Value) (hcf : ∀ (args : Array Value) (wz : World), (callFunc F args).run Try.prog wz = .ok (.enter F args) wz) (p : Nat → Bool) (a : Option Addr) (n c : Nat) (X : Nat → Int) (w : World) (hn : n ≤ 1000) (hr : RdI w a n X)
    (H : Hid (∀ j, j < n → ∀ wz, Gr w wz → Calls Try.prog F #[.int .i64 (X j), u] wz (RetB (p j) wz))) :
    Calls Try.prog 95 #[.slice a n c, .func (.func F) #[] #[u]] w (RetIx p n w) := by
  have HR := Lib.hid hr
  clear hr
  go_enter Try.func95, Try.ntmps95
  go_wp2_with fail
  go_loopw [8] (fun i wr => ∃ k : Nat, k ≤ n ∧ i = .int .i64 k ∧ Hid (anyP p k = false) ∧ Gr w wr) (fun i _ => n - (intOf i).toNat)
  case atStart => exact ⟨0, Nat.zero_le _, rfl, rfl, Gr.refl _⟩
  case round =>
    obtain ⟨k, hk, rfl, Hi, hg⟩ := hrel
    by_cases hlt : k < n
    · obtain ⟨b, o, rfl, hc⟩ := (HR.out.gr hg).at hlt
      have c1 := hc k hlt
      have i1 : (k : Int) < n := by omega
      have C := Lib.hid (H.out k hlt wr hg)
      have S := Lib.hid (anyP_succ p k)
      have ST := Lib.hid (fun h => anyP_stop (p := p) hlt h)
      clear hc hlt
      generalize p k = pk at C S ST
      generalize X k = x at *
      cases pk with
      | true =>
        go_wp2_with fail
        refine C.out.mono ?_
        rintro e w1 ⟨rfl, g1⟩
        clear c1
        go_wp2_with fail
        go_ret
        exact ⟨(k : Int), rfl, by rw [ST.out trivial]; simp, hg.trans g1⟩
      | false =>
        have S' := Lib.hid (show anyP p (k + 1) = false by rw [S.out, Hi.out]; rfl)
        go_wp2_with fail
        refine C.out.mono ?_
        rintro e w1 ⟨rfl, g1⟩
        clear c1
        go_wp2_with fail
        go_roundw
        case rel => exact ⟨k + 1, by omega, by go_num, S', hg.trans g1⟩
        case measure => simp [intOf]; omega
    · obtain rfl : k = n := by omega
      go_wp2_with fail
      go_ret
      exact ⟨-1, rfl, by rw [Hi.out]; rfl, hg⟩

theorem ContainsFuncI_any (F : Nat) (u : Value) (hcf : ∀ (args : Array Value) (wz : World), (callFunc F args).run Try.prog wz = .ok (.enter F args) wz) (p : Nat → Bool) (a : Option Addr) (n c : Nat) (X : Nat → Int) (w : World) (hn : n ≤ 1000) (hr : RdI w a n X)
    (H : Hid (∀ j, j < n → ∀ wz, Gr w wz → Calls Try.prog F #[.int .i64 (X j), u] wz (RetB (p j) wz))) :
    Calls Try.prog 78 #[.slice a n c, .func (.func F) #[] #[u]] w (RetB (anyP p n) w) := by
  have C := Lib.hid (IndexFuncI_any F u hcf p a n c X w hn hr H)
  clear H hr hcf
  go_enter Try.func78, Try.ntmps78
  go_wp2_with (go_at_call 95; (with_reducible refine C.out.mono ?_); rintro e w1 ⟨z, rfl, hz, g1⟩; have HZ := Lib.hid hz; clear hz)
  go_ret
  rw [← HZ.out]
  exact ⟨rfl, g1⟩

theorem cf79 (args : Array Value) (wz : World) : (callFunc 79 args).run Try.prog wz = .ok (.enter 79 args) wz := by kernel_rfl

/-- Whether the arguments of Proves are in range, but for the points. -/
def argB (n nw : Nat) (W : Nat → Int) (m N D : Int) : Bool := btw 1 m 10000 && decide (nw = n) && !(anyP (fun j => outW m (W j)) nw) && btw 1 D 10000 && btw 0 N 1000000000
/-- Whether weights prove a cost. -/
def prvB (n : Nat) (X Y W : Nat → Int) (m N D : Int) : Bool := decide (sm W n = 0) && decide (sm (fun j => W j * X j) n = 0) && decide (N * m ≤ sm (fun j => W j * Y j) n * D)
def pvE (n nw : Nat) (X Y W : Nat → Int) (m N D : Int) : Int := if vP n X Y then (if argB n nw W m N D then 0 else 2) else 50
def pvB (n nw : Nat) (X Y W : Nat → Int) (m N D : Int) : Bool := vP n X Y && argB n nw W m N D && prvB n X Y W m N D

/- printed by gen36t.py -/
theorem argB_at {n nw : Nat} {W : Nat → Int} {m N D : Int} (h : argB n nw W m N D = true) : (1 ≤ m ∧ m ≤ 10000) ∧ nw = n ∧ (∀ j, j < n → -m ≤ W j ∧ W j ≤ m) ∧ (1 ≤ D ∧ D ≤ 10000) ∧ 0 ≤ N ∧ N ≤ 1000000000 := by
  unfold argB at h
  simp only [Bool.and_eq_true, decide_eq_true_eq, btw_true, Bool.not_eq_true'] at h
  obtain ⟨⟨⟨⟨h1, h2⟩, h3⟩, h4⟩, h5⟩ := h
  refine ⟨h1, h2, fun j hj => ?_, h4, h5⟩
  have : outW m (W j) = false := by
    cases hq : outW m (W j) with
    | false => rfl
    | true => rw [anyP_stop (p := fun j => outW m (W j)) (by omega : j < nw) hq] at h3; cases h3
  unfold outW at this
  rw [Bool.not_eq_false'] at this
  exact btw_true.1 this
theorem smp_bd {m c : Int} {W X : Nat → Int} {n : Nat} (hW : ∀ j, j < n → -m ≤ W j ∧ W j ≤ m) (hX : ∀ j, j < n → -c ≤ X j ∧ X j ≤ c) {k : Nat} (hk : k ≤ n) : -(k * (m * c)) ≤ sm (fun j => W j * X j) k ∧ sm (fun j => W j * X j) k ≤ k * (m * c) :=
  sm_bd fun j hj => mul_bd (hW j (by omega)).1 (hW j (by omega)).2 (hX j (by omega)).1 (hX j (by omega)).2
theorem le12 {k : Nat} {x y c : Int} (hk : k ≤ 12) (hy : 0 ≤ y) (hyc : y ≤ c) (h : -(k * y) ≤ x ∧ x ≤ k * y) : -(12 * c) ≤ x ∧ x ≤ 12 * c := by
  have h1 : (k : Int) * y ≤ 12 * y := Int.mul_le_mul_of_nonneg_right (by omega) hy
  omega

set_option maxHeartbeats 2000000 in
set_option maxRecDepth 100000 in
theorem Proves_any (a : Option Addr) (n c : Nat) (X Y : Nat → Int) (a2 : Option Addr) (nw c2 : Nat) (W : Nat → Int) (m N D : Int) (w : World) (hn : n ≤ 1000) (hnw : nw ≤ 1000) (hr : RdM w a n X Y) (hl : RdI w a2 nw W) :
    Calls Try.prog 41 #[.slice a n c, .slice a2 nw c2, .int .i64 m, .agg #[.int .i64 N, .int .i64 D]] w (fun e w' => e = .returned (.tuple #[.bool (pvB n nw X Y W m N D), .int .i64 (pvE n nw X Y W m N D)]) ∧ Gr w w') := by
  obtain ⟨W0, hW0⟩ : ∃ W0, ((w.alloc (.cells #[.int .i64 m] 3)).alloc (.cells #[.int .i64 N, .int .i64 D] 27)) = W0 := ⟨_, rfl⟩
  have G0 := Lib.hid (show Gr w W0 by rw [← hW0]; exact ((Gr.refl w).alloc _).alloc _)
  have z6 : W0.cell? ⟨w.heap.size, 0, none⟩ = some (.int .i64 m) := by rw [← hW0]; exact ((Gr.refl _).alloc _).fresh' rfl rfl |>.1
  have B7 := Lib.hid (show Box2 W0 (w.heap.size + 1) N D by rw [← hW0]; exact Box2.new (by simp))
  have Z6 := Lib.hid z6
  have CV := Lib.hid (Valid_any a n c X Y W0 hn (hr.gr G0.out))
  have HR := Lib.hid hr
  have HLW := Lib.hid hl
  have hz6 : w.heap.size < W0.heap.size := World.block_lt_of_cell? W0 _ z6
  have S0 : W0.heap.size = w.heap.size + 2 := by rw [← hW0]; simp
  clear hr hl
  cases hv : vP n X Y with
  | false =>
    rw [hv] at CV
    have E1 := Lib.hid (show pvB n nw X Y W m N D = false by unfold pvB; rw [hv]; rfl)
    have E2 := Lib.hid (show pvE n nw X Y W m N D = 50 by unfold pvE; rw [hv]; rfl)
    rw [E1.out, E2.out]
    clear hv z6 hz6 S0
    go_enter Try.func41, Try.ntmps41
    go_wp2_with (go_at_call 28; (with_reducible refine CV.out.mono ?_); rintro e w1 ⟨rfl, g1⟩)
    go_ret2
    exact ⟨rfl, G0.out.trans g1⟩
  | true =>
    rw [hv] at CV
    have V := Lib.hid (vP_iff.1 hv)
    have n12 := V.out.few
    have CC := Lib.hid (fun w1 (g : Gr W0 w1) (hm : 0 ≤ m ∧ m ≤ 10000) => ContainsFuncI_any 79 (.pointer (some ⟨w.heap.size, 0, none⟩)) cf79 (fun j => outW m (W j)) a2 nw c2 W w1 hnw (HLW.out.gr (G0.out.trans g)) (Lib.hid fun j hj wz gz => Proves1_any (W j) m _ wz hm ((g.trans gz).cell z6)))
    have EV := Lib.hid hv
    clear hv
    cases h1 : btw 1 m 10000 with
    | false =>
      have hA : argB n nw W m N D = false := by unfold argB; rw [h1]; rfl
      have H1 := Lib.hid h1
      have E1 := Lib.hid (show pvB n nw X Y W m N D = false by unfold pvB; rw [hA]; simp)
      have E2 := Lib.hid (show pvE n nw X Y W m N D = 2 by unfold pvE; rw [EV.out, hA]; rfl)
      rw [E1.out, E2.out]
      clear hA h1 CC
      go_enter Try.func41, Try.ntmps41
      go_wp2_with (first
          | (go_at_call 28; (with_reducible refine CV.out.mono ?_); rintro e w1 ⟨rfl, g1⟩; have G1 := Lib.hid g1; have q6 := g1.cell z6; obtain ⟨p0, p1, p2, p3⟩ := B7.out.gr g1)
          | (go_at_call 70; (with_reducible refine (between_any 1 m 10000 _).mono ?_); rintro e w2 ⟨rfl, rfl⟩; rw [H1.out]))
      go_ret2
      exact ⟨rfl, G0.out.trans G1.out⟩
    | true =>
    obtain ⟨m1, m2⟩ := btw_true.1 h1
    by_cases hnn : nw = n
    case neg =>
      have hA : argB n nw W m N D = false := by unfold argB; rw [h1, decide_eq_false hnn]; rfl
      have H1 := Lib.hid h1
      have nn1 : ¬ ((nw : Int) = (n : Int)) := by omega
      have nn2 : ((nw : Int) == (n : Int)) = false := by simpa using nn1
      have E1 := Lib.hid (show pvB n nw X Y W m N D = false by unfold pvB; rw [hA]; simp)
      have E2 := Lib.hid (show pvE n nw X Y W m N D = 2 by unfold pvE; rw [EV.out, hA]; rfl)
      rw [E1.out, E2.out]
      clear hA h1 CC
      go_enter Try.func41, Try.ntmps41
      go_wp2_with (first
          | (go_at_call 28; (with_reducible refine CV.out.mono ?_); rintro e w1 ⟨rfl, g1⟩; have G1 := Lib.hid g1; have q6 := g1.cell z6; obtain ⟨p0, p1, p2, p3⟩ := B7.out.gr g1)
          | (go_at_call 70; (with_reducible refine (between_any 1 m 10000 _).mono ?_); rintro e w2 ⟨rfl, rfl⟩; rw [H1.out]))
      go_ret2
      exact ⟨rfl, G0.out.trans G1.out⟩
    case pos =>
    subst hnn
    cases h3 : anyP (fun j => outW m (W j)) nw with
    | true =>
      have hA : argB nw nw W m N D = false := by unfold argB; rw [h1, h3]; simp
      have H1 := Lib.hid h1
      have H3 := Lib.hid h3
      have E1 := Lib.hid (show pvB nw nw X Y W m N D = false by unfold pvB; rw [hA]; simp)
      have E2 := Lib.hid (show pvE nw nw X Y W m N D = 2 by unfold pvE; rw [EV.out, hA]; rfl)
      rw [E1.out, E2.out]
      clear hA h1 h3
      go_enter Try.func41, Try.ntmps41
      go_wp2_with (first
          | (go_at_call 28; (with_reducible refine CV.out.mono ?_); rintro e w1 ⟨rfl, g1⟩; have G1 := Lib.hid g1; have q6 := g1.cell z6; obtain ⟨p0, p1, p2, p3⟩ := B7.out.gr g1)
          | (go_at_call 70; (with_reducible refine (between_any 1 m 10000 _).mono ?_); rintro e w2 ⟨rfl, rfl⟩; rw [H1.out])
          | (go_at_call 78; (with_reducible refine (CC.out _ G1.out ⟨by omega, m2⟩).mono ?_); rintro e w3 ⟨rfl, g3⟩; rw [H3.out]; have G3 := Lib.hid (G1.out.trans g3); have r6 := g3.cell q6; obtain ⟨r0, r1, r2, r3⟩ := (B7.out.gr G1.out).gr g3; clear g3))
      go_ret2
      exact ⟨rfl, G0.out.trans G3.out⟩
    | false =>
    cases h4 : btw 1 D 10000 with
    | false =>
      have hA : argB nw nw W m N D = false := by unfold argB; rw [h1, h3, h4]; simp
      have H1 := Lib.hid h1
      have H3 := Lib.hid h3
      have H4 := Lib.hid h4
      have E1 := Lib.hid (show pvB nw nw X Y W m N D = false by unfold pvB; rw [hA]; simp)
      have E2 := Lib.hid (show pvE nw nw X Y W m N D = 2 by unfold pvE; rw [EV.out, hA]; rfl)
      rw [E1.out, E2.out]
      clear hA h1 h3 h4
      go_enter Try.func41, Try.ntmps41
      go_wp2_with (first
          | (go_at_call 28; (with_reducible refine CV.out.mono ?_); rintro e w1 ⟨rfl, g1⟩; have G1 := Lib.hid g1; have q6 := g1.cell z6; obtain ⟨p0, p1, p2, p3⟩ := B7.out.gr g1)
          | (go_at_call 70; (with_reducible refine (between_any 1 m 10000 _).mono ?_); rintro e w2 ⟨rfl, rfl⟩; rw [H1.out])
          | (go_at_call 78; (with_reducible refine (CC.out _ G1.out ⟨by omega, m2⟩).mono ?_); rintro e w3 ⟨rfl, g3⟩; rw [H3.out]; have G3 := Lib.hid (G1.out.trans g3); have r6 := g3.cell q6; obtain ⟨r0, r1, r2, r3⟩ := (B7.out.gr G1.out).gr g3; clear g3)
          | (go_at_call 70; (with_reducible refine (between_any 1 D 10000 _).mono ?_); rintro e w2 ⟨rfl, rfl⟩; rw [H4.out]))
      go_ret2
      exact ⟨rfl, G0.out.trans G3.out⟩
    | true =>
    cases h5 : btw 0 N 1000000000 with
    | false =>
      have hA : argB nw nw W m N D = false := by unfold argB; rw [h1, h3, h4, h5]; simp
      have H1 := Lib.hid h1
      have H3 := Lib.hid h3
      have H4 := Lib.hid h4
      have H5 := Lib.hid h5
      have E1 := Lib.hid (show pvB nw nw X Y W m N D = false by unfold pvB; rw [hA]; simp)
      have E2 := Lib.hid (show pvE nw nw X Y W m N D = 2 by unfold pvE; rw [EV.out, hA]; rfl)
      rw [E1.out, E2.out]
      clear hA h1 h3 h4 h5
      go_enter Try.func41, Try.ntmps41
      go_wp2_with (first
          | (go_at_call 28; (with_reducible refine CV.out.mono ?_); rintro e w1 ⟨rfl, g1⟩; have G1 := Lib.hid g1; have q6 := g1.cell z6; obtain ⟨p0, p1, p2, p3⟩ := B7.out.gr g1)
          | (go_at_call 70; (with_reducible refine (between_any 1 m 10000 _).mono ?_); rintro e w2 ⟨rfl, rfl⟩; rw [H1.out])
          | (go_at_call 78; (with_reducible refine (CC.out _ G1.out ⟨by omega, m2⟩).mono ?_); rintro e w3 ⟨rfl, g3⟩; rw [H3.out]; have G3 := Lib.hid (G1.out.trans g3); have r6 := g3.cell q6; obtain ⟨r0, r1, r2, r3⟩ := (B7.out.gr G1.out).gr g3; clear g3)
          | (go_at_call 70; (with_reducible refine (between_any 1 D 10000 _).mono ?_); rintro e w2 ⟨rfl, rfl⟩; rw [H4.out])
          | (go_at_call 70; (with_reducible refine (between_any 0 N 1000000000 _).mono ?_); rintro e w2 ⟨rfl, rfl⟩; rw [H5.out]))
      go_ret2
      exact ⟨rfl, G0.out.trans G3.out⟩
    | true =>
    have hA : argB nw nw W m N D = true := by unfold argB; rw [h1, h3, h4, h5]; simp
    have E1 := Lib.hid (show pvB nw nw X Y W m N D = prvB nw X Y W m N D by unfold pvB; rw [EV.out, hA]; rfl)
    have E2 := Lib.hid (show pvE nw nw X Y W m N D = 0 by unfold pvE; rw [EV.out, hA]; rfl)
    rw [E1.out, E2.out]
    have H1 := Lib.hid h1
    have H3 := Lib.hid h3
    have H4 := Lib.hid h4
    have H5 := Lib.hid h5
    obtain ⟨_, _, hWb, ⟨d1, d2⟩, N1, N2⟩ := argB_at hA
    have WB := Lib.hid hWb
    have EP := Lib.hid (show prvB nw X Y W m N D = (decide (sm W nw = 0) && decide (sm (fun j => W j * X j) nw = 0) && decide (N * m ≤ sm (fun j => W j * Y j) nw * D)) from rfl)
    generalize prvB nw X Y W m N D = pb at *
    clear hA h1 h3 h4 h5 E1 E2 hWb
    go_enter Try.func41, Try.ntmps41
    go_wp2_with (first
    | (go_at_call 28; (with_reducible refine CV.out.mono ?_); rintro e w1 ⟨rfl, g1⟩; have G1 := Lib.hid g1; have q6 := g1.cell z6; obtain ⟨p0, p1, p2, p3⟩ := B7.out.gr g1)
    | (go_at_call 70; (with_reducible refine (between_any 1 m 10000 _).mono ?_); rintro e w2 ⟨rfl, rfl⟩; rw [H1.out])
    | (go_at_call 78; (with_reducible refine (CC.out _ G1.out ⟨by omega, m2⟩).mono ?_); rintro e w3 ⟨rfl, g3⟩; rw [H3.out]; have G3 := Lib.hid (G1.out.trans g3); have r6 := g3.cell q6; obtain ⟨r0, r1, r2, r3⟩ := (B7.out.gr G1.out).gr g3; clear g3)
    | (go_at_call 70; (with_reducible refine (between_any 1 D 10000 _).mono ?_); rintro e w2 ⟨rfl, rfl⟩; rw [H4.out])
    | (go_at_call 70; (with_reducible refine (between_any 0 N 1000000000 _).mono ?_); rintro e w2 ⟨rfl, rfl⟩; rw [H5.out]))
    clear CC CV H1 H3 H4 H5 q6 p0 p1 p2 p3 r0 r1 r2 r3 r6 z6
    go_loopw [10, 11, 12, 49] (fun s10 s11 s12 sk wr => ∃ k : Nat, k ≤ nw ∧ sk = .int .i64 k ∧ s10 = .int .i64 (sm W k) ∧ s11 = .int .i64 (sm (fun j => W j * X j) k) ∧ s12 = .int .i64 (sm (fun j => W j * Y j) k) ∧ Hid (Gr W0 wr)) (fun _ _ _ sk _ => nw - (intOf sk).toNat)
    case atStart => exact ⟨0, Nat.zero_le _, rfl, rfl, rfl, rfl, G3⟩
    case round =>
      obtain ⟨k, hk, rfl, rfl, rfl, rfl, GR⟩ := hrel
      have b1 := le12 (c := 10000) (show k ≤ 12 by omega) (by omega) m2 (sm_bd (f := W) (n := k) fun j hj => WB.out j (by omega))
      have b2 := le12 (c := 1000000) (show k ≤ 12 by omega) (by omega) (by omega) (smp_bd (W := W) (X := X) (n := nw) (c := 100) WB.out (fun j hj => (V.out.ok j hj).1) hk)
      have b3 := le12 (c := 10000000) (show k ≤ 12 by omega) (by omega) (by omega) (smp_bd (W := W) (X := Y) (n := nw) (c := 1000) WB.out (fun j hj => (V.out.ok j hj).2) hk)
      by_cases hlt : k < nw
      · have c1 := le12 (c := 10000) (show k + 1 ≤ 12 by omega) (by omega) m2 (sm_bd (f := W) (n := k + 1) fun j hj => WB.out j (by omega))
        have c2 := le12 (c := 1000000) (show k + 1 ≤ 12 by omega) (by omega) (by omega) (smp_bd (W := W) (X := X) (n := nw) (c := 100) WB.out (fun j hj => (V.out.ok j hj).1) hlt)
        have c3 := le12 (c := 10000000) (show k + 1 ≤ 12 by omega) (by omega) (by omega) (smp_bd (W := W) (X := Y) (n := nw) (c := 1000) WB.out (fun j hj => (V.out.ok j hj).2) hlt)
        rw [show sm W (k + 1) = sm W k + W k from rfl] at c1
        rw [show sm (fun j => W j * X j) (k + 1) = sm (fun j => W j * X j) k + W k * X k from rfl] at c2
        rw [show sm (fun j => W j * Y j) (k + 1) = sm (fun j => W j * Y j) k + W k * Y k from rfl] at c3
        have x1 := Lib.hid (show sm W (k + 1) = sm W k + W k from rfl)
        have x2 := Lib.hid (show sm (fun j => W j * X j) (k + 1) = sm (fun j => W j * X j) k + W k * X k from rfl)
        have x3 := Lib.hid (show sm (fun j => W j * Y j) (k + 1) = sm (fun j => W j * Y j) k + W k * Y k from rfl)
        obtain ⟨b, o, rfl, hc⟩ := (HR.out.gr (G0.out.trans GR.out)).at hlt
        obtain ⟨e1, e2⟩ := hc k hlt
        obtain ⟨bq, oq, rfl, hd⟩ := (HLW.out.gr (G0.out.trans GR.out)).at hlt
        have e3 := hd k hlt
        have wk := WB.out k hlt
        have i1 : (k : Int) < nw := by omega
        clear hc hd hlt
        generalize sm W k = s1 at *
        generalize sm (fun j => W j * X j) k = s2 at *
        generalize sm (fun j => W j * Y j) k = s3 at *
        generalize W k = wv at *
        generalize X k = x at *
        generalize Y k = y at *
        obtain ⟨px, hpx⟩ : ∃ px, wv * x = px := ⟨_, rfl⟩
        obtain ⟨py, hpy⟩ : ∃ py, wv * y = py := ⟨_, rfl⟩
        rw [hpx] at c2 x2
        rw [hpy] at c3 x3
        have w1' : IntKind.i64.wrap (wv * x) = px := by rw [hpx]; exact IntWalk.i64_in _ (by omega)
        have w2' : IntKind.i64.wrap (wv * y) = py := by rw [hpy]; exact IntWalk.i64_in _ (by omega)
        have w3' : IntKind.i64.wrap (s1 + wv) = s1 + wv := IntWalk.i64_in _ (by omega)
        have w4' : IntKind.i64.wrap (s2 + px) = s2 + px := IntWalk.i64_in _ (by omega)
        have w5' : IntKind.i64.wrap (s3 + py) = s3 + py := IntWalk.i64_in _ (by omega)
        clear hpx hpy
        go_wp2_with fail
        go_roundw
        case rel => exact ⟨k + 1, by omega, by go_num, by rw [x1.out], by rw [x2.out], by rw [x3.out], GR⟩
        case measure => simp [intOf]; omega
      · obtain ek : k = nw := by omega
        rw [ek] at b1 b2 b3 ⊢
        clear ek
        obtain ⟨u0, u1, u2, u3⟩ := B7.out.gr GR.out
        have u6 := GR.out.cell Z6.out
        clear hlt
        generalize sm W nw = s1 at *
        generalize sm (fun j => W j * X j) nw = s2 at *
        generalize sm (fun j => W j * Y j) nw = s3 at *
        by_cases h1 : s1 = 0
        · by_cases h2 : s2 = 0
          · subst h1
            subst h2
            have f1 := mul_bd (a := s3) (b := D) (A := 120000000) (B := 10000) (by omega) (by omega) (by omega) (by omega)
            have f2 := mul_bd (a := N) (b := m) (A := 1000000000) (B := 10000) (by omega) (by omega) (by omega) (by omega)
            have EQ := Lib.hid (show pb = decide (N * m ≤ s3 * D) by rw [EP.out]; simp)
            clear EP
            have w1' : IntKind.i64.wrap (N * m) = N * m := IntWalk.i64_in _ (by omega)
            have w2' : IntKind.i64.wrap (s3 * D) = s3 * D := IntWalk.i64_in _ (by omega)
            go_wp2_with fail
            go_ret2
            rw [EQ.out]
            exact ⟨rfl, G0.out.trans GR.out⟩
          · subst h1
            have h2' : (s2 == 0) = false := by simpa using h2
            have EQ := Lib.hid (show pb = false by rw [EP.out]; simp [h2])
            clear EP
            go_wp2_with fail
            go_ret2
            rw [EQ.out]
            exact ⟨rfl, G0.out.trans GR.out⟩
        · have h1' : (s1 == 0) = false := by simpa using h1
          have EQ := Lib.hid (show pb = false by rw [EP.out]; simp [h1])
          clear EP
          go_wp2_with fail
          go_ret2
          rw [EQ.out]
          exact ⟨rfl, G0.out.trans GR.out⟩

end Go.Proofs.Ytbhndfnfohoidaa

namespace Go.Proofs.Ytbhndfnfohoidaa
open Go.RowKit Go.Firn

theorem argB_of {n : Nat} {W : Nat → Int} {m N D : Int} (h1 : 1 ≤ m ∧ m ≤ 10000) (h3 : ∀ j, j < n → -m ≤ W j ∧ W j ≤ m) (h4 : 1 ≤ D ∧ D ≤ 10000) (h5 : 0 ≤ N ∧ N ≤ 1000000000) : argB n n W m N D = true := by
  unfold argB
  rw [btw_true.2 h1, btw_true.2 h4, btw_true.2 h5, decide_eq_true rfl]
  have : anyP (fun j => outW m (W j)) n = false := by
    unfold anyP
    rw [List.any_eq_false]
    intro j hj
    rw [List.mem_range] at hj
    unfold outW
    rw [btw_true.2 (h3 j hj)]
    simp
  rw [this]
  rfl

set_option maxHeartbeats 2000000 in
set_option maxRecDepth 100000 in
theorem refProves_any (a : Option Addr) (n c : Nat) (X Y : Nat → Int) (a2 : Option Addr) (nw c2 : Nat) (W : Nat → Int) (m N D : Int) (w : World) (hn : n ≤ 1000) (hnw : nw ≤ 1000) (hr : RdM w a n X Y) (hl : RdI w a2 nw W) :
    Calls Try.prog 42 #[.slice a n c, .slice a2 nw c2, .int .i64 m, .agg #[.int .i64 N, .int .i64 D]] w (fun e w' => e = .returned (.tuple #[.bool (pvB n nw X Y W m N D), .int .i64 (pvE n nw X Y W m N D)]) ∧ Gr w w') := by
  obtain ⟨W0, hW0⟩ : ∃ W0, (w.alloc (.cells #[.int .i64 N, .int .i64 D] 27)) = W0 := ⟨_, rfl⟩
  have G0 := Lib.hid (show Gr w W0 by rw [← hW0]; exact (Gr.refl w).alloc _)
  have B7 := Lib.hid (show Box2 W0 w.heap.size N D by rw [← hW0]; exact Box2.new rfl)
  have CV := Lib.hid (refValid_any a n c X Y W0 hn (hr.gr G0.out))
  have HR := Lib.hid hr
  have HLW := Lib.hid hl
  have S0 : W0.heap.size = w.heap.size + 1 := by rw [← hW0]; simp
  clear hr hl
  cases hv : vP n X Y with
  | false =>
    rw [hv] at CV
    have E1 := Lib.hid (show pvB n nw X Y W m N D = false by unfold pvB; rw [hv]; rfl)
    have E2 := Lib.hid (show pvE n nw X Y W m N D = 50 by unfold pvE; rw [hv]; rfl)
    rw [E1.out, E2.out]
    clear hv S0
    go_enter Try.func42, Try.ntmps42
    go_wp2_with (go_at_call 29; (with_reducible refine CV.out.mono ?_); rintro e w1 ⟨rfl, g1⟩)
    go_ret2
    exact ⟨rfl, G0.out.trans g1⟩
  | true =>
    rw [hv] at CV
    have V := Lib.hid (vP_iff.1 hv)
    have n12 := V.out.few
    have EV := Lib.hid hv
    clear hv
    by_cases b1 : m < 1
    · have hA : argB n nw W m N D = false := by
        rw [Bool.eq_false_iff]
        intro h
        have := argB_at h
        omega
      have E1 := Lib.hid (show pvB n nw X Y W m N D = false by unfold pvB; rw [hA]; simp)
      have E2 := Lib.hid (show pvE n nw X Y W m N D = 2 by unfold pvE; rw [EV.out, hA]; rfl)
      rw [E1.out, E2.out]
      clear hA
      go_enter Try.func42, Try.ntmps42
      go_wp2_with (go_at_call 29; (with_reducible refine CV.out.mono ?_); rintro e w1 ⟨rfl, g1⟩; have G1 := Lib.hid g1; obtain ⟨p0, p1, p2, p3⟩ := B7.out.gr g1; clear g1)
      go_ret2
      exact ⟨rfl, G0.out.trans G1.out⟩
    by_cases b2 : 10000 < m
    · have hA : argB n nw W m N D = false := by
        rw [Bool.eq_false_iff]
        intro h
        have := argB_at h
        omega
      have E1 := Lib.hid (show pvB n nw X Y W m N D = false by unfold pvB; rw [hA]; simp)
      have E2 := Lib.hid (show pvE n nw X Y W m N D = 2 by unfold pvE; rw [EV.out, hA]; rfl)
      rw [E1.out, E2.out]
      clear hA
      go_enter Try.func42, Try.ntmps42
      go_wp2_with (go_at_call 29; (with_reducible refine CV.out.mono ?_); rintro e w1 ⟨rfl, g1⟩; have G1 := Lib.hid g1; obtain ⟨p0, p1, p2, p3⟩ := B7.out.gr g1; clear g1)
      go_ret2
      exact ⟨rfl, G0.out.trans G1.out⟩
    by_cases b3 : nw = n
    case neg =>
      have nn1 : ¬ ((nw : Int) = (n : Int)) := by omega
      have nn2 : ((nw : Int) == (n : Int)) = false := by simpa using nn1
      have hA : argB n nw W m N D = false := by
        rw [Bool.eq_false_iff]
        intro h
        have := argB_at h
        omega
      have E1 := Lib.hid (show pvB n nw X Y W m N D = false by unfold pvB; rw [hA]; simp)
      have E2 := Lib.hid (show pvE n nw X Y W m N D = 2 by unfold pvE; rw [EV.out, hA]; rfl)
      rw [E1.out, E2.out]
      clear hA
      go_enter Try.func42, Try.ntmps42
      go_wp2_with (go_at_call 29; (with_reducible refine CV.out.mono ?_); rintro e w1 ⟨rfl, g1⟩; have G1 := Lib.hid g1; obtain ⟨p0, p1, p2, p3⟩ := B7.out.gr g1; clear g1)
      go_ret2
      exact ⟨rfl, G0.out.trans G1.out⟩
    case pos =>
    subst b3
    by_cases b4 : D < 1
    · have hA : argB nw nw W m N D = false := by
        rw [Bool.eq_false_iff]
        intro h
        have := argB_at h
        omega
      have E1 := Lib.hid (show pvB nw nw X Y W m N D = false by unfold pvB; rw [hA]; simp)
      have E2 := Lib.hid (show pvE nw nw X Y W m N D = 2 by unfold pvE; rw [EV.out, hA]; rfl)
      rw [E1.out, E2.out]
      clear hA
      go_enter Try.func42, Try.ntmps42
      go_wp2_with (go_at_call 29; (with_reducible refine CV.out.mono ?_); rintro e w1 ⟨rfl, g1⟩; have G1 := Lib.hid g1; obtain ⟨p0, p1, p2, p3⟩ := B7.out.gr g1; clear g1)
      go_ret2
      exact ⟨rfl, G0.out.trans G1.out⟩
    by_cases b5 : 10000 < D
    · have hA : argB nw nw W m N D = false := by
        rw [Bool.eq_false_iff]
        intro h
        have := argB_at h
        omega
      have E1 := Lib.hid (show pvB nw nw X Y W m N D = false by unfold pvB; rw [hA]; simp)
      have E2 := Lib.hid (show pvE nw nw X Y W m N D = 2 by unfold pvE; rw [EV.out, hA]; rfl)
      rw [E1.out, E2.out]
      clear hA
      go_enter Try.func42, Try.ntmps42
      go_wp2_with (go_at_call 29; (with_reducible refine CV.out.mono ?_); rintro e w1 ⟨rfl, g1⟩; have G1 := Lib.hid g1; obtain ⟨p0, p1, p2, p3⟩ := B7.out.gr g1; clear g1)
      go_ret2
      exact ⟨rfl, G0.out.trans G1.out⟩
    by_cases b6 : N < 0
    · have hA : argB nw nw W m N D = false := by
        rw [Bool.eq_false_iff]
        intro h
        have := argB_at h
        omega
      have E1 := Lib.hid (show pvB nw nw X Y W m N D = false by unfold pvB; rw [hA]; simp)
      have E2 := Lib.hid (show pvE nw nw X Y W m N D = 2 by unfold pvE; rw [EV.out, hA]; rfl)
      rw [E1.out, E2.out]
      clear hA
      go_enter Try.func42, Try.ntmps42
      go_wp2_with (go_at_call 29; (with_reducible refine CV.out.mono ?_); rintro e w1 ⟨rfl, g1⟩; have G1 := Lib.hid g1; obtain ⟨p0, p1, p2, p3⟩ := B7.out.gr g1; clear g1)
      go_ret2
      exact ⟨rfl, G0.out.trans G1.out⟩
    by_cases b7 : 1000000000 < N
    · have hA : argB nw nw W m N D = false := by
        rw [Bool.eq_false_iff]
        intro h
        have := argB_at h
        omega
      have E1 := Lib.hid (show pvB nw nw X Y W m N D = false by unfold pvB; rw [hA]; simp)
      have E2 := Lib.hid (show pvE nw nw X Y W m N D = 2 by unfold pvE; rw [EV.out, hA]; rfl)
      rw [E1.out, E2.out]
      clear hA
      go_enter Try.func42, Try.ntmps42
      go_wp2_with (go_at_call 29; (with_reducible refine CV.out.mono ?_); rintro e w1 ⟨rfl, g1⟩; have G1 := Lib.hid g1; obtain ⟨p0, p1, p2, p3⟩ := B7.out.gr g1; clear g1)
      go_ret2
      exact ⟨rfl, G0.out.trans G1.out⟩
    have m1 : 1 ≤ m := by omega
    have m2 : m ≤ 10000 := by omega
    have d1 : 1 ≤ D := by omega
    have d2 : D ≤ 10000 := by omega
    have N1 : 0 ≤ N := by omega
    have N2 : N ≤ 1000000000 := by omega
    have wm : IntKind.i64.wrap (-m) = -m := IntWalk.i64_in _ (by omega)
    have EP := Lib.hid (show prvB nw X Y W m N D = (decide (sm W nw = 0) && decide (sm (fun j => W j * X j) nw = 0) && decide (N * m ≤ sm (fun j => W j * Y j) nw * D)) from rfl)
    have EA := Lib.hid (fun h => argB_of (n := nw) (W := W) ⟨m1, m2⟩ h ⟨d1, d2⟩ ⟨N1, N2⟩)
    have EB := Lib.hid (show pvB nw nw X Y W m N D = (argB nw nw W m N D && prvB nw X Y W m N D) by unfold pvB; rw [EV.out, Bool.true_and])
    have EE := Lib.hid (show pvE nw nw X Y W m N D = if argB nw nw W m N D then 0 else 2 by unfold pvE; rw [EV.out]; rfl)
    have EN := Lib.hid (fun h => argB_at (n := nw) (nw := nw) (W := W) (m := m) (N := N) (D := D) h)
    generalize prvB nw X Y W m N D = pb at *
    generalize argB nw nw W m N D = ab at *
    generalize pvB nw nw X Y W m N D = vb at *
    generalize pvE nw nw X Y W m N D = ve at *
    go_enter Try.func42, Try.ntmps42
    go_wp2_with (go_at_call 29; (with_reducible refine CV.out.mono ?_); rintro e w1 ⟨rfl, g1⟩; have G1 := Lib.hid g1; obtain ⟨p0, p1, p2, p3⟩ := B7.out.gr g1; clear g1)
    clear CV p0 p1 p2 p3
    go_loopw [10, 11, 12, 53] (fun s10 s11 s12 sk wr => ∃ k : Nat, k ≤ nw ∧ sk = .int .i64 k ∧ s10 = .int .i64 (sm W k) ∧ s11 = .int .i64 (sm (fun j => W j * X j) k) ∧ s12 = .int .i64 (sm (fun j => W j * Y j) k) ∧ Hid (Gr W0 wr) ∧ Hid (∀ j, j < k → -m ≤ W j ∧ W j ≤ m)) (fun _ _ _ sk _ => nw - (intOf sk).toNat)
    case atStart => exact ⟨0, Nat.zero_le _, rfl, rfl, rfl, rfl, G1, Lib.hid (fun j h => by omega)⟩
    case round =>
      obtain ⟨k, hk, rfl, rfl, rfl, rfl, GR, WB⟩ := hrel
      have b1 := le12 (c := 10000) (show k ≤ 12 by omega) (by omega) m2 (sm_bd (f := W) (n := k) fun j hj => WB.out j (by omega))
      have b2 := le12 (c := 1000000) (show k ≤ 12 by omega) (by omega) (by omega) (smp_bd (W := W) (X := X) (n := k) (c := 100) WB.out (fun j hj => (V.out.ok j (by omega)).1) (Nat.le_refl k))
      have b3 := le12 (c := 10000000) (show k ≤ 12 by omega) (by omega) (by omega) (smp_bd (W := W) (X := Y) (n := k) (c := 1000) WB.out (fun j hj => (V.out.ok j (by omega)).2) (Nat.le_refl k))
      by_cases hlt : k < nw
      · obtain ⟨b, o, rfl, hc⟩ := (HR.out.gr (G0.out.trans GR.out)).at hlt
        obtain ⟨e1, e2⟩ := hc k hlt
        obtain ⟨bq, oq, rfl, hd⟩ := (HLW.out.gr (G0.out.trans GR.out)).at hlt
        have e3 := hd k hlt
        have i1 : (k : Int) < nw := by omega
        clear hc hd
        by_cases g1 : W k < -m
        · have HA := Lib.hid (show ab = false by rw [Bool.eq_false_iff]; intro h; have := (EN.out h).2.2.1 k hlt; omega)
          have E1 := Lib.hid (show vb = false by rw [EB.out, HA.out]; rfl)
          have E2 := Lib.hid (show ve = 2 by rw [EE.out, HA.out]; rfl)
          clear hlt
          generalize W k = wv at *
          go_wp2_with fail
          go_ret2
          rw [E1.out, E2.out]
          exact ⟨rfl, G0.out.trans GR.out⟩
        by_cases g2 : m < W k
        · have HA := Lib.hid (show ab = false by rw [Bool.eq_false_iff]; intro h; have := (EN.out h).2.2.1 k hlt; omega)
          have E1 := Lib.hid (show vb = false by rw [EB.out, HA.out]; rfl)
          have E2 := Lib.hid (show ve = 2 by rw [EE.out, HA.out]; rfl)
          clear hlt
          generalize W k = wv at *
          go_wp2_with fail
          go_ret2
          rw [E1.out, E2.out]
          exact ⟨rfl, G0.out.trans GR.out⟩
        have WN := Lib.hid (show ∀ j, j < k + 1 → -m ≤ W j ∧ W j ≤ m from fun j hj => by
          by_cases e : j = k
          · subst e; omega
          · exact WB.out j (by omega))
        have c1 := le12 (c := 10000) (show k + 1 ≤ 12 by omega) (by omega) m2 (sm_bd (f := W) (n := k + 1) fun j hj => WN.out j hj)
        have c2 := le12 (c := 1000000) (show k + 1 ≤ 12 by omega) (by omega) (by omega) (smp_bd (W := W) (X := X) (n := k + 1) (c := 100) WN.out (fun j hj => (V.out.ok j (by omega)).1) (Nat.le_refl _))
        have c3 := le12 (c := 10000000) (show k + 1 ≤ 12 by omega) (by omega) (by omega) (smp_bd (W := W) (X := Y) (n := k + 1) (c := 1000) WN.out (fun j hj => (V.out.ok j (by omega)).2) (Nat.le_refl _))
        rw [show sm W (k + 1) = sm W k + W k from rfl] at c1
        rw [show sm (fun j => W j * X j) (k + 1) = sm (fun j => W j * X j) k + W k * X k from rfl] at c2
        rw [show sm (fun j => W j * Y j) (k + 1) = sm (fun j => W j * Y j) k + W k * Y k from rfl] at c3
        have x1 := Lib.hid (show sm W (k + 1) = sm W k + W k from rfl)
        have x2 := Lib.hid (show sm (fun j => W j * X j) (k + 1) = sm (fun j => W j * X j) k + W k * X k from rfl)
        have x3 := Lib.hid (show sm (fun j => W j * Y j) (k + 1) = sm (fun j => W j * Y j) k + W k * Y k from rfl)
        have wk := WN.out k (by omega)
        clear hlt
        generalize sm W k = s1 at *
        generalize sm (fun j => W j * X j) k = s2 at *
        generalize sm (fun j => W j * Y j) k = s3 at *
        generalize W k = wv at *
        generalize X k = x at *
        generalize Y k = y at *
        obtain ⟨px, hpx⟩ : ∃ px, wv * x = px := ⟨_, rfl⟩
        obtain ⟨py, hpy⟩ : ∃ py, wv * y = py := ⟨_, rfl⟩
        rw [hpx] at c2 x2
        rw [hpy] at c3 x3
        have w1' : IntKind.i64.wrap (wv * x) = px := by rw [hpx]; exact IntWalk.i64_in _ (by omega)
        have w2' : IntKind.i64.wrap (wv * y) = py := by rw [hpy]; exact IntWalk.i64_in _ (by omega)
        have w3' : IntKind.i64.wrap (s1 + wv) = s1 + wv := IntWalk.i64_in _ (by omega)
        have w4' : IntKind.i64.wrap (s2 + px) = s2 + px := IntWalk.i64_in _ (by omega)
        have w5' : IntKind.i64.wrap (s3 + py) = s3 + py := IntWalk.i64_in _ (by omega)
        clear hpx hpy
        go_wp2_with fail
        go_roundw
        case rel => exact ⟨k + 1, by omega, by go_num, by rw [x1.out], by rw [x2.out], by rw [x3.out], GR, WN⟩
        case measure => simp [intOf]; omega
      · obtain ek : k = nw := by omega
        rw [ek] at b1 b2 b3 WB ⊢
        have HA := Lib.hid (EA.out WB.out)
        have E1 := Lib.hid (show vb = pb by rw [EB.out, HA.out]; rfl)
        have E2 := Lib.hid (show ve = 0 by rw [EE.out, HA.out]; rfl)
        clear ek EA EB EE EN
        obtain ⟨u0, u1, u2, u3⟩ := B7.out.gr GR.out
        clear hlt
        generalize sm W nw = s1 at *
        generalize sm (fun j => W j * X j) nw = s2 at *
        generalize sm (fun j => W j * Y j) nw = s3 at *
        by_cases h1 : s1 = 0
        · by_cases h2 : s2 = 0
          · subst h1
            subst h2
            have f1 := mul_bd (a := s3) (b := D) (A := 120000000) (B := 10000) (by omega) (by omega) (by omega) (by omega)
            have f2 := mul_bd (a := N) (b := m) (A := 1000000000) (B := 10000) (by omega) (by omega) (by omega) (by omega)
            have EQ := Lib.hid (show pb = decide (N * m ≤ s3 * D) by rw [EP.out]; simp)
            clear EP
            have w1' : IntKind.i64.wrap (N * m) = N * m := IntWalk.i64_in _ (by omega)
            have w2' : IntKind.i64.wrap (s3 * D) = s3 * D := IntWalk.i64_in _ (by omega)
            go_wp2_with fail
            go_ret2
            rw [E1.out, E2.out, EQ.out]
            exact ⟨rfl, G0.out.trans GR.out⟩
          · subst h1
            have h2' : (s2 == 0) = false := by simpa using h2
            have EQ := Lib.hid (show pb = false by rw [EP.out]; simp [h2])
            clear EP
            go_wp2_with fail
            go_ret2
            rw [E1.out, E2.out, EQ.out]
            exact ⟨rfl, G0.out.trans GR.out⟩
        · have h1' : (s1 == 0) = false := by simpa using h1
          have EQ := Lib.hid (show pb = false by rw [EP.out]; simp [h1])
          clear EP
          go_wp2_with fail
          go_ret2
          rw [E1.out, E2.out, EQ.out]
          exact ⟨rfl, G0.out.trans GR.out⟩

end Go.Proofs.Ytbhndfnfohoidaa
