/- Contracts of chapter 5: the narrowest width, of the reference; the first witness, of both. -/
import Derived.Test.YtbhndfnfohoidaaW26
import Derived.Test.YtbhndfnfohoidaaW12
namespace Go.Proofs.Ytbhndfnfohoidaa
open Go.RowKit Go.Firn

set_option maxHeartbeats 1000000 in
theorem refNarrowest_any (a : Option Addr) (n c : Nat) (X Y : Nat → Int) (w : World) (hn : n ≤ 1000) (hr : RdM w a n X Y) :
    Calls Try.prog 22 #[.slice a n c] w (RetRE (naN n X Y) (naD n X Y) (naE n X Y) w) := by
  have G0 := Lib.hid ((Gr.refl w).alloc (.cells #[.int .i64 0, .int .i64 0] 27))
  have B0 := Lib.hid (show Box2 (w.alloc (.cells #[.int .i64 0, .int .i64 0] 27)) w.heap.size 0 0 from Box2.new rfl)
  have HA := Lib.hid (refValid_any a n c X Y (w.alloc (.cells #[.int .i64 0, .int .i64 0] 27)) hn (hr.gr G0.out))
  cases hv : vP n X Y with
  | false =>
    have E := Lib.hid (show naN n X Y = 0 ∧ naD n X Y = 0 ∧ naE n X Y = 50 by unfold naN naD naE; rw [hv]; exact ⟨rfl, rfl, rfl⟩)
    rw [hv] at HA
    clear hr hv hn
    rw [E.out.1, E.out.2.1, E.out.2.2]
    clear E
    go_enter Try.func22, Try.ntmps22
    go_wp2_with (go_at_call 29; refine (HA.out).mono ?_; rintro e w1 ⟨rfl, g1⟩; have G1 := Lib.hid (G0.out.trans g1); obtain ⟨p0, p1, p2, p3⟩ := B0.out.gr g1; clear g1)
    refine bodyPost_ret (v := .tuple #[.agg #[.int .i64 0, .int .i64 0], .int .i64 50]) (by simp [results, Try.results22, go_sem, p0, p1]) rfl ⟨rfl, ?_⟩
    repeat (first | exact G1.out | refine Gr.alloc ?_ _ | refine Gr.drewN ?_ _ | refine Gr.drew ?_ | refine Gr.setCell ?_ (by simp) _)
  | true =>
    have V := vP_iff.1 hv
    have HT := Lib.hid (show ∀ w1, Gr (w.alloc (.cells #[.int .i64 0, .int .i64 0] 27)) w1 → Calls Try.prog 64 #[.slice a n c] w1 (RetNar n X Y w1) from fun w1 g => narrowest_any a n c X Y V w1 ((hr.gr G0.out).gr g))
    have E := Lib.hid (show naN n X Y = (witS X Y (wits n X)).N ∧ naD n X Y = (witS X Y (wits n X)).D ∧ naE n X Y = 0 by unfold naN naD naE; rw [hv]; exact ⟨rfl, rfl, rfl⟩)
    rw [hv] at HA
    clear hr hv hn V
    rw [E.out.1, E.out.2.1, E.out.2.2]
    clear E
    unfold RetNar at HT
    generalize witS X Y (wits n X) = s at *
    go_enter Try.func22, Try.ntmps22
    go_wp2_with (first
      | (go_at_call 29; refine (HA.out).mono ?_; rintro e w1 ⟨rfl, g1⟩; have G1 := Lib.hid g1; obtain ⟨p0, p1, p2, p3⟩ := B0.out.gr g1; clear g1)
      | (go_at_call 64; refine (HT.out _ G1.out).mono ?_; rintro e w2 ⟨v, rfl, _, g2⟩; have G2 := Lib.hid (G0.out.trans (G1.out.trans g2)); obtain ⟨q0, q1, q2, q3⟩ := (show Box2 w1 w.heap.size 0 0 from ⟨p0, p1, p2, p3⟩).gr g2; have l0 : w.heap.size < w2.heap.size := World.block_lt_of_cell? w2 _ q0; clear g2))
    obtain ⟨z0, z1, _, _⟩ := ((show Box2 w2 w.heap.size 0 0 from ⟨q0, q1, q2, q3⟩).put (x' := s.N) (y' := s.D)).gr ((Gr.refl _).alloc (.cells #[.int .i64 s.N, .int .i64 s.D] 27))
    refine bodyPost_ret (v := .tuple #[.agg #[.int .i64 s.N, .int .i64 s.D], .int .i64 0]) (by simp [results, Try.results22, go_sem, z0, z1]) rfl ⟨rfl, ?_⟩
    repeat (first | exact G2.out | refine Gr.alloc ?_ _ | refine Gr.drewN ?_ _ | refine Gr.drew ?_ | refine Gr.setCell ?_ (by simp) _)

theorem witS_mem (X Y : Nat → Int) : ∀ (ls : List (List Nat)) (s : Wst), (ls.foldl (wstep X Y) s).l = s.l ∨ (ls.foldl (wstep X Y) s).l ∈ ls := by
  intro ls
  induction ls with
  | nil => intro s; exact .inl rfl
  | cons L ls ih =>
    intro s
    rcases ih (wstep X Y s L) with h | h
    · by_cases e : wstep X Y s L = s
      · rw [e] at h; exact .inl (by rw [List.foldl_cons, e]; exact h)
      · refine .inr (List.mem_cons.2 (.inl ?_))
        rw [List.foldl_cons, h]
        unfold wstep at e ⊢
        split
        · rfl
        · rename_i h'; rw [if_neg h'] at e; exact absurd rfl e
    · exact .inr (List.mem_cons_of_mem _ h)
theorem witS_short {n : Nat} {X Y : Nat → Int} (h : (witS X Y (wits n X)).l ≠ []) : (witS X Y (wits n X)).l.length ≤ 3 := by
  rcases witS_mem X Y (wits n X) wst0 with h1 | h1
  · exact absurd h1 h
  · have := (wits_wit _ h1).2
    unfold witS
    omega
/-- What Witness says. -/
def wiL (n : Nat) (X Y : Nat → Int) : List Nat := if vP n X Y then (witS X Y (wits n X)).l else []
def wiE (n : Nat) (X Y : Nat → Int) : Int := if vP n X Y then (if (witS X Y (wits n X)).l = [] then 5 else 0) else 50

set_option maxHeartbeats 1000000 in
theorem Witness_any (a : Option Addr) (n c : Nat) (X Y : Nat → Int) (w : World) (hn : n ≤ 1000) (hr : RdM w a n X Y) :
    Calls Try.prog 23 #[.slice a n c] w (RetIs (wiL n X Y).length (nf (wiL n X Y)) (wiE n X Y) w) := by
  have HA := Lib.hid (Valid_any a n c X Y w hn hr)
  cases hv : vP n X Y with
  | false =>
    have E := Lib.hid (show wiL n X Y = [] ∧ wiE n X Y = 50 by unfold wiL wiE; rw [hv]; exact ⟨rfl, rfl⟩)
    rw [hv] at HA
    clear hr hv hn
    rw [E.out.1, E.out.2]
    clear E
    go_enter Try.func23, Try.ntmps23
    go_wp2_with (go_at_call 28; refine (HA.out).mono ?_; rintro e w1 ⟨rfl, g1⟩)
    exact bodyPost_ret (v := .tuple #[.slice none 0 0, .int .i64 50]) (by simp [results, Try.results23, go_sem]) rfl ⟨_, _, rfl, Nat.le_refl _, by unfold maxLen; omega, .inl rfl, g1⟩
  | true =>
    have V := vP_iff.1 hv
    have HT := fun (w1 : World) (g : Gr w w1) => (show Calls Try.prog 63 #[.slice a n c] w1 (RetWit n X Y w1) from by
      obtain ⟨b, o, e, _⟩ := hr.at (show 0 < n by have := V.two; omega)
      subst e
      exact witness_any b o n c X Y V w1 (hr.gr g))
    rw [hv] at HA
    have eqn := fun (a : Option Addr) (n c : Nat) (w' : World) => run_eql_slice_nil (P := Try.prog) w' 23 3 a n c Try.underlying23
    by_cases hl : (witS X Y (wits n X)).l = []
    · have E := Lib.hid (show wiL n X Y = [] ∧ wiE n X Y = 5 by unfold wiL wiE; rw [hv, if_pos rfl, if_pos rfl, if_pos hl]; exact ⟨hl, rfl⟩)
      have H1 := Lib.hid (show ∀ w1, Gr w w1 → Calls Try.prog 63 #[.slice a n c] w1 (fun e w' => e = .returned (.tuple #[.slice none 0 0, .agg #[.int .i64 (witS X Y (wits n X)).N, .int .i64 (witS X Y (wits n X)).D]]) ∧ Gr w1 w') from fun w1 g => (HT w1 g).mono (by
          rintro e w' ⟨v, rfl, hv, g'⟩
          rcases hv with ⟨_, rfl⟩ | ⟨h, _⟩
          · exact ⟨rfl, g'⟩
          · exact absurd hl h))
      have eq1 := eqn none 0 0
      clear hr hv hn V HT eqn hl
      rw [E.out.1, E.out.2]
      clear E
      generalize witS X Y (wits n X) = s at *
      go_enter Try.func23, Try.ntmps23
      go_wp2_with (first
        | (go_at_call 28; refine (HA.out).mono ?_; rintro e w1 ⟨rfl, g1⟩; have G1 := Lib.hid g1; clear g1)
        | (go_at_call 63; refine (H1.out _ G1.out).mono ?_; rintro e w2 ⟨rfl, g2⟩; have G2 := Lib.hid (G1.out.trans g2); clear g2))
      exact bodyPost_ret (v := .tuple #[.slice none 0 0, .int .i64 5]) (by simp [results, Try.results23, go_sem]) rfl ⟨_, _, rfl, Nat.le_refl _, by unfold maxLen; omega, .inl rfl, G2.out.alloc _⟩
    · have E := Lib.hid (show wiL n X Y = (witS X Y (wits n X)).l ∧ wiE n X Y = 0 by unfold wiL wiE; rw [hv, if_pos rfl, if_pos rfl, if_neg hl]; exact ⟨rfl, rfl⟩)
      have H1 := Lib.hid (show ∀ w1, Gr w w1 → Calls Try.prog 63 #[.slice a n c] w1 (fun e w' => ∃ x k2, e = .returned (.tuple #[.slice (some x) (witS X Y (wits n X)).l.length k2, .agg #[.int .i64 (witS X Y (wits n X)).N, .int .i64 (witS X Y (wits n X)).D]]) ∧ (witS X Y (wits n X)).l.length ≤ k2 ∧ k2 ≤ maxLen ∧ RdI w' (some x) (witS X Y (wits n X)).l.length (nf (witS X Y (wits n X)).l) ∧ Gr w1 w') from fun w1 g => (HT w1 g).mono (by
          rintro e w' ⟨v, rfl, hv, g'⟩
          rcases hv with ⟨h, _⟩ | ⟨_, g, rfl, hx⟩
          · exact absurd h hl
          · exact ⟨_, _, rfl, Nat.le_refl _, by have := witS_short (X := X) (Y := Y) hl; unfold maxLen; omega, .inr ⟨g, 0, rfl, fun i hi => by rw [Nat.zero_add]; exact hx i hi⟩, g'⟩))
      clear hr hv hn V HT hl
      rw [E.out.1, E.out.2]
      clear E
      generalize witS X Y (wits n X) = s at *
      go_enter Try.func23, Try.ntmps23
      go_wp2_with (first
        | (go_at_call 28; refine (HA.out).mono ?_; rintro e w1 ⟨rfl, g1⟩; have G1 := Lib.hid g1; clear g1)
        | (go_at_call 63; refine (H1.out _ G1.out).mono ?_; rintro e w2 ⟨x, c', rfl, h1, h2, h3, g2⟩; have eq1 := eqn (some x) s.l.length c'; have K1 := Lib.hid h1; have K2 := Lib.hid h2; have K3 := Lib.hid h3; have G2 := Lib.hid (G1.out.trans g2); clear g2 h1 h2 h3))
      exact bodyPost_ret (v := .tuple #[.slice (some x) s.l.length c', .int .i64 0]) (by simp [results, Try.results23, go_sem]) rfl ⟨_, _, rfl, K1.out, K2.out, K3.out.gr ((Gr.refl _).alloc _), G2.out.alloc _⟩

set_option maxHeartbeats 1000000 in
theorem refWitness_any (a : Option Addr) (n c : Nat) (X Y : Nat → Int) (w : World) (hn : n ≤ 1000) (hr : RdM w a n X Y) :
    Calls Try.prog 24 #[.slice a n c] w (RetIs (wiL n X Y).length (nf (wiL n X Y)) (wiE n X Y) w) := by
  have HA := Lib.hid (refValid_any a n c X Y w hn hr)
  cases hv : vP n X Y with
  | false =>
    have E := Lib.hid (show wiL n X Y = [] ∧ wiE n X Y = 50 by unfold wiL wiE; rw [hv]; exact ⟨rfl, rfl⟩)
    rw [hv] at HA
    clear hr hv hn
    rw [E.out.1, E.out.2]
    clear E
    go_enter Try.func24, Try.ntmps24
    go_wp2_with (go_at_call 29; refine (HA.out).mono ?_; rintro e w1 ⟨rfl, g1⟩)
    exact bodyPost_ret (v := .tuple #[.slice none 0 0, .int .i64 50]) (by simp [results, Try.results24, go_sem]) rfl ⟨_, _, rfl, Nat.le_refl _, by unfold maxLen; omega, .inl rfl, g1⟩
  | true =>
    have V := vP_iff.1 hv
    have HT := fun (w1 : World) (g : Gr w w1) => (show Calls Try.prog 64 #[.slice a n c] w1 (RetNar n X Y w1) from narrowest_any a n c X Y V w1 (hr.gr g))
    rw [hv] at HA
    have eqn := fun (a : Option Addr) (n c : Nat) (w' : World) => run_eql_slice_nil (P := Try.prog) w' 23 3 a n c Try.underlying23
    by_cases hl : (witS X Y (wits n X)).l = []
    · have E := Lib.hid (show wiL n X Y = [] ∧ wiE n X Y = 5 by unfold wiL wiE; rw [hv, if_pos rfl, if_pos rfl, if_pos hl]; exact ⟨hl, rfl⟩)
      have H1 := Lib.hid (show ∀ w1, Gr w w1 → Calls Try.prog 64 #[.slice a n c] w1 (fun e w' => e = .returned (.tuple #[.agg #[.int .i64 (witS X Y (wits n X)).N, .int .i64 (witS X Y (wits n X)).D], .slice none 0 0]) ∧ Gr w1 w') from fun w1 g => (HT w1 g).mono (by
          rintro e w' ⟨v, rfl, hv, g'⟩
          rcases hv with ⟨_, rfl⟩ | ⟨h, _⟩
          · exact ⟨rfl, g'⟩
          · exact absurd hl h))
      have eq1 := eqn none 0 0
      clear hr hv hn V HT eqn hl
      rw [E.out.1, E.out.2]
      clear E
      generalize witS X Y (wits n X) = s at *
      go_enter Try.func24, Try.ntmps24
      go_wp2_with (first
        | (go_at_call 29; refine (HA.out).mono ?_; rintro e w1 ⟨rfl, g1⟩; have G1 := Lib.hid g1; clear g1)
        | (go_at_call 64; refine (H1.out _ G1.out).mono ?_; rintro e w2 ⟨rfl, g2⟩; have G2 := Lib.hid (G1.out.trans g2); clear g2))
      exact bodyPost_ret (v := .tuple #[.slice none 0 0, .int .i64 5]) (by simp [results, Try.results24, go_sem]) rfl ⟨_, _, rfl, Nat.le_refl _, by unfold maxLen; omega, .inl rfl, G2.out.alloc _⟩
    · have E := Lib.hid (show wiL n X Y = (witS X Y (wits n X)).l ∧ wiE n X Y = 0 by unfold wiL wiE; rw [hv, if_pos rfl, if_pos rfl, if_neg hl]; exact ⟨rfl, rfl⟩)
      have H1 := Lib.hid (show ∀ w1, Gr w w1 → Calls Try.prog 64 #[.slice a n c] w1 (fun e w' => ∃ x k2, e = .returned (.tuple #[.agg #[.int .i64 (witS X Y (wits n X)).N, .int .i64 (witS X Y (wits n X)).D], .slice (some x) (witS X Y (wits n X)).l.length k2]) ∧ (witS X Y (wits n X)).l.length ≤ k2 ∧ k2 ≤ maxLen ∧ RdI w' (some x) (witS X Y (wits n X)).l.length (nf (witS X Y (wits n X)).l) ∧ Gr w1 w') from fun w1 g => (HT w1 g).mono (by
          rintro e w' ⟨v, rfl, hv, g'⟩
          rcases hv with ⟨h, _⟩ | ⟨_, hx⟩
          · exact absurd h hl
          · obtain ⟨b, o, c', rfl⟩ := hx.some hl
            obtain ⟨a', c2, e2, h1, h2, h3⟩ := hx.rd
            cases e2
            exact ⟨_, _, rfl, h1, h2, h3, g'⟩))
      clear hr hv hn V HT hl
      rw [E.out.1, E.out.2]
      clear E
      generalize witS X Y (wits n X) = s at *
      go_enter Try.func24, Try.ntmps24
      go_wp2_with (first
        | (go_at_call 29; refine (HA.out).mono ?_; rintro e w1 ⟨rfl, g1⟩; have G1 := Lib.hid g1; clear g1)
        | (go_at_call 64; refine (H1.out _ G1.out).mono ?_; rintro e w2 ⟨x, c', rfl, h1, h2, h3, g2⟩; have eq1 := eqn (some x) s.l.length c'; have K1 := Lib.hid h1; have K2 := Lib.hid h2; have K3 := Lib.hid h3; have G2 := Lib.hid (G1.out.trans g2); clear g2 h1 h2 h3))
      exact bodyPost_ret (v := .tuple #[.slice (some x) s.l.length c', .int .i64 0]) (by simp [results, Try.results24, go_sem]) rfl ⟨_, _, rfl, K1.out, K2.out, K3.out.gr ((Gr.refl _).alloc _), G2.out.alloc _⟩

end Go.Proofs.Ytbhndfnfohoidaa
