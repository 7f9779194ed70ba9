/- Contracts of chapter 7: which weights are valid, of the program and of the reference. -/
import Derived.Test.YtohcnicadbpbbaaDoorW2
namespace Go.Proofs.YtohcnicadbpbbaaDoor
open Go.RowKit Go.Firn

/-- A weight is out of range. -/
def outR (x : Int) : Bool := !btw 0 x 1000
theorem outR_false {x : Int} : outR x = false ↔ 0 ≤ x ∧ x ≤ 1000 := by unfold outR; rw [Bool.not_eq_false', btw_true]
theorem weighed1_any (x : Int) (w : World) : Calls Tryd.prog 90 #[.int .i64 x] w (RetB (outR x) w) := by
  have g1 := Gr.refl w
  go_enter Tryd.func90, Tryd.ntmps90
  go_wp2_with (go_at_call 59; (with_reducible refine (between_any 0 x 1000 _).mono ?_); rintro e w1 ⟨rfl, rfl⟩)
  go_ret
  exact ⟨rfl, g1⟩

/-- An index where one is so, or a number below 0. -/
def RetIx (p : Nat → Bool) (n : Nat) (w : World) (e : Ending) (w' : World) : Prop := ∃ z : Int, e = .returned (.int .i64 z) ∧ decide (0 ≤ z) = anyP p n ∧ Gr w w'

theorem IndexFuncI_any (F : Nat) (hcf : ∀ (args : Array Value) (wz : World), (callFunc F args).run Tryd.prog wz = .ok (.enter F args) wz) (p : Nat → Bool) (a : Option Addr) (n c : Nat) (X : Nat → Int) (w : World) (hn : n ≤ 1000) (hr : RdI w a n X)
    (H : Hid (∀ j, j < n → ∀ wz, Gr w wz → Calls Tryd.prog F #[.int .i64 (X j)] wz (RetB (p j) wz))) :
    Calls Tryd.prog 103 #[.slice a n c, .func (.func F) #[] #[]] w (RetIx p n w) := by
  have HR := Lib.hid hr
  clear hr
  go_enter Tryd.func103, Tryd.ntmps103
  go_wp2_with fail
  go_loopw [8] (fun i wr => ∃ k : Nat, k ≤ n ∧ i = .int .i64 k ∧ Hid (anyP p k = false) ∧ Gr w wr) (fun i _ => n - (intOf i).toNat)
  case atStart => exact ⟨0, Nat.zero_le _, rfl, rfl, Gr.refl _⟩
  case round =>
    obtain ⟨k, hk, rfl, Hi, hg⟩ := hrel
    by_cases hlt : k < n
    · obtain ⟨b, o, rfl, hc⟩ := (HR.out.gr hg).at hlt
      have c1 := hc k hlt
      have i1 : (k : Int) < n := by omega
      have C := Lib.hid (H.out k hlt wr hg)
      have S := Lib.hid (anyP_succ p k)
      have ST := Lib.hid (fun h => anyP_stop (p := p) hlt h)
      clear hc hlt
      generalize p k = pk at C S ST
      generalize X k = x at *
      cases pk with
      | true =>
        go_wp2_with fail
        refine C.out.mono ?_
        rintro e w1 ⟨rfl, g1⟩
        clear c1
        go_wp2_with fail
        go_ret
        exact ⟨(k : Int), rfl, by rw [ST.out trivial]; simp, hg.trans g1⟩
      | false =>
        have S' := Lib.hid (show anyP p (k + 1) = false by rw [S.out, Hi.out]; rfl)
        go_wp2_with fail
        refine C.out.mono ?_
        rintro e w1 ⟨rfl, g1⟩
        clear c1
        go_wp2_with fail
        go_roundw
        case rel => exact ⟨k + 1, by omega, by go_num, S', hg.trans g1⟩
        case measure => simp [intOf]; omega
    · obtain rfl : k = n := by omega
      go_wp2_with fail
      go_ret
      exact ⟨-1, rfl, by rw [Hi.out]; rfl, hg⟩

theorem ContainsFuncI_any (F : Nat) (hcf : ∀ (args : Array Value) (wz : World), (callFunc F args).run Tryd.prog wz = .ok (.enter F args) wz) (p : Nat → Bool) (a : Option Addr) (n c : Nat) (X : Nat → Int) (w : World) (hn : n ≤ 1000) (hr : RdI w a n X)
    (H : Hid (∀ j, j < n → ∀ wz, Gr w wz → Calls Tryd.prog F #[.int .i64 (X j)] wz (RetB (p j) wz))) :
    Calls Tryd.prog 89 #[.slice a n c, .func (.func F) #[] #[]] w (RetB (anyP p n) w) := by
  have C := Lib.hid (IndexFuncI_any F hcf p a n c X w hn hr H)
  clear H hr hcf
  go_enter Tryd.func89, Tryd.ntmps89
  go_wp2_with (go_at_call 103; (with_reducible refine C.out.mono ?_); rintro e w1 ⟨z, rfl, hz, g1⟩; have HZ := Lib.hid hz; clear hz)
  go_ret
  rw [← HZ.out]
  exact ⟨rfl, g1⟩

theorem cf68 (args : Array Value) (wz : World) : (callFunc 90 args).run Tryd.prog wz = .ok (.enter 90 args) wz := by kernel_rfl

/-- Which weights are valid. -/
def vW (n : Nat) (f : Nat → Int) : Bool := btw 1 n 10 && !(anyP (fun j => outR (f j)) n) && decide (0 < sm f n)
structure VW (n : Nat) (f : Nat → Int) : Prop where
  one : 1 ≤ n
  few : n ≤ 10
  ok : ∀ i, i < n → 0 ≤ f i ∧ f i ≤ 1000
  pos : 0 < sm f n
theorem vW_iff {n : Nat} {f : Nat → Int} : vW n f = true ↔ VW n f := by
  unfold vW
  simp only [Bool.and_eq_true, decide_eq_true_eq, btw_true, Bool.not_eq_true', anyP_none, outR_false]
  exact ⟨fun ⟨⟨⟨a, b⟩, c⟩, d⟩ => ⟨by omega, by omega, c, d⟩, fun h => ⟨⟨⟨by have := h.one; omega, by have := h.few; omega⟩, h.ok⟩, h.pos⟩⟩

set_option maxHeartbeats 1000000 in
theorem weighed_any (a : Option Addr) (n c : Nat) (f : Nat → Int) (w : World) (hn : n ≤ 1000) (hr : RdI w a n f) :
    Calls Tryd.prog 79 #[.slice a n c] w (RetB (vW n f) w) := by
  have HR := Lib.hid hr
  have hmf : ∀ (fn : Fn) (first cap : Array Value) (w : World), (Instr.makeFunc fn first cap).run Tryd.prog w = .ok (.func fn first cap) w := fun _ _ _ _ => rfl
  have C1 := Lib.hid (ContainsFuncI_any 90 cf68 (fun j => outR (f j)) a n c f w hn hr (Lib.hid fun j _ wz _ => weighed1_any (f j) wz))
  have g0 := Gr.refl w
  clear hr
  cases h1 : btw 1 n 10 with
  | true =>
    have B := Lib.hid h1
    cases h2 : anyP (fun j => outR (f j)) n with
    | true =>
      have E := Lib.hid (show vW n f = false by unfold vW; rw [h1, h2]; rfl)
      rw [h2] at C1
      clear h1 h2
      go_enter Tryd.func79, Tryd.ntmps79
      go_wp2_with (first
        | (go_at_call 59; (with_reducible refine (between_any 1 n 10 _).mono ?_); rintro e w1 ⟨rfl, rfl⟩; rw [B.out])
        | (go_at_call 89; (with_reducible refine C1.out.mono ?_); rintro e w2 ⟨rfl, g1⟩))
      go_ret
      rw [E.out]
      exact ⟨rfl, g1⟩
    | false =>
      have E := Lib.hid (show vW n f = decide (0 < sm f n) by unfold vW; rw [h1, h2]; rfl)
      have C2 := Lib.hid (fun w' (g : Gr w w') => sum_any a n c f w' hn (HR.out.gr g) (fun i hi => by have := outR_false.1 (anyP_none.1 h2 i hi); omega))
      rw [h2] at C1
      clear h1 h2
      go_enter Tryd.func79, Tryd.ntmps79
      go_wp2_with (first
        | (go_at_call 59; (with_reducible refine (between_any 1 n 10 _).mono ?_); rintro e w1 ⟨rfl, rfl⟩; rw [B.out])
        | (go_at_call 89; (with_reducible refine C1.out.mono ?_); rintro e w2 ⟨rfl, g1⟩)
        | (go_at_call 78; (with_reducible refine (C2.out _ g1).mono ?_); rintro e w3 ⟨rfl, rfl⟩))
      go_ret
      rw [E.out]
      exact ⟨rfl, g1⟩
  | false =>
    have B := Lib.hid h1
    have E := Lib.hid (show vW n f = false by unfold vW; rw [h1]; rfl)
    clear h1
    go_enter Tryd.func79, Tryd.ntmps79
    go_wp2_with (go_at_call 59; (with_reducible refine (between_any 1 n 10 _).mono ?_); rintro e w1 ⟨rfl, rfl⟩; rw [B.out])
    go_ret
    rw [E.out]
    exact ⟨rfl, g0⟩

set_option maxHeartbeats 1000000 in
theorem areWeights_any (a : Option Addr) (n c : Nat) (f : Nat → Int) (w : World) (hn : n ≤ 1000) (hr : RdI w a n f) :
    Calls Tryd.prog 48 #[.slice a n c] w (RetB (vW n f) w) := by
  have HR := Lib.hid hr
  clear hr
  go_enter Tryd.func48, Tryd.ntmps48
  go_wp2_with fail
  go_loopw [7] (fun i wr => ∃ k : Nat, k ≤ n ∧ i = .int .i64 k ∧ Hid (∀ j, j < k → outR (f j) = false) ∧ wr = w) (fun i _ => n - (intOf i).toNat)
  case atStart => exact ⟨0, Nat.zero_le _, rfl, Lib.hid fun j hj => by omega, rfl⟩
  case round =>
    obtain ⟨k, hk, rfl, HI, rfl⟩ := hrel
    have g0 := Gr.refl wr
    by_cases hlt : k < n
    · obtain ⟨b, o, rfl, hc⟩ := HR.out.at hlt
      have c1 := hc k hlt
      have i1 : (k : Int) < n := by omega
      clear hc
      by_cases hx : 0 ≤ f k ∧ f k ≤ 1000
      · obtain ⟨x1, x2⟩ := hx
        have HI' := Lib.hid (show ∀ j, j < k + 1 → outR (f j) = false from fun j hj => by
          rcases Nat.lt_or_ge j k with h | h
          · exact HI.out j h
          · rw [show j = k by omega]; exact outR_false.2 ⟨x1, x2⟩)
        clear hlt
        generalize f k = x at c1 x1 x2
        have d1 : ¬ x < 0 := by omega
        have d2 : ¬ (1000 : Int) < x := by omega
        clear x1 x2
        go_wp2_with fail
        go_roundw
        case rel => exact ⟨k + 1, by omega, by go_num, HI', by trivial⟩
        case measure => simp [intOf]; omega
      · have E := Lib.hid (show vW n f = false by
          rw [Bool.eq_false_iff]; intro hv; exact hx ((vW_iff.1 hv).ok k hlt))
        clear hlt
        generalize f k = x at c1 hx
        by_cases hx0 : x < 0
        · clear hx
          go_wp2_with fail
          go_ret
          rw [E.out]
          exact ⟨rfl, g0⟩
        · have hx2 : (1000 : Int) < x := by omega
          clear hx
          go_wp2_with fail
          go_ret
          rw [E.out]
          exact ⟨rfl, g0⟩
    · obtain rfl : k = n := by omega
      have A := Lib.hid (show anyP (fun j => outR (f j)) k = false from anyP_none.2 HI.out)
      have C := Lib.hid (Total_any a k c f wr hn HR.out (fun i hi => by have := outR_false.1 (HI.out i hi); omega))
      clear hlt
      by_cases h1 : 1 ≤ k
      · by_cases h2 : k ≤ 10
        · have E := Lib.hid (show vW k f = decide (0 < sm f k) by unfold vW; rw [A.out, btw_true.2 ⟨by omega, by omega⟩]; rfl)
          have d1 : (1 : Int) ≤ k := by omega
          have d2 : (k : Int) ≤ 10 := by omega
          clear h1 h2 hk
          go_wp2_with (go_at_call 25; (with_reducible refine C.out.mono ?_); rintro e w3 ⟨rfl, rfl⟩)
          go_ret
          rw [E.out]
          exact ⟨rfl, g0⟩
        · have E := Lib.hid (show vW k f = false by unfold vW; rw [btw_false.2 (by omega)]; rfl)
          have d1 : (1 : Int) ≤ k := by omega
          have d2 : ¬ (k : Int) ≤ 10 := by omega
          clear h1 h2 hk
          go_wp2_with fail
          go_ret
          rw [E.out]
          exact ⟨rfl, g0⟩
      · have E := Lib.hid (show vW k f = false by unfold vW; rw [btw_false.2 (by omega)]; rfl)
        have d1 : ¬ (1 : Int) ≤ k := by omega
        clear h1 hk
        go_wp2_with fail
        go_ret
        rw [E.out]
        exact ⟨rfl, g0⟩

end Go.Proofs.YtohcnicadbpbbaaDoor
