/- Contracts of chapter 5: points in range, and whether some point is so; which points are valid, of the program and of the reference. -/
import Derived.Test.YtbhndfnfohoidaaW3
import Derived.Laws.EntriesVeiled
namespace Go.Proofs.Ytbhndfnfohoidaa
open Go.RowKit Go.Firn

def inPB (x y : Int) : Bool := btw (-100) x 100 && btw (-1000) y 1000
theorem inPB_iff {x y : Int} : inPB x y = true ↔ InP x y := by unfold inPB InP; rw [Bool.and_eq_true, btw_true, btw_true]
/-- Which points are valid. -/
def vP (n : Nat) (X Y : Nat → Int) : Bool := decide (2 ≤ n) && decide (n ≤ 12) && ((List.range n).all fun i => inPB (X i) (Y i)) && (List.range n).any fun i => X i != X 0
structure VP (n : Nat) (X Y : Nat → Int) : Prop where
  two : 2 ≤ n
  few : n ≤ 12
  ok : ∀ i, i < n → InP (X i) (Y i)
  far : ∃ i, i < n ∧ X i ≠ X 0
theorem vP_iff {n : Nat} {X Y : Nat → Int} : vP n X Y = true ↔ VP n X Y := by
  unfold vP
  simp only [Bool.and_eq_true, decide_eq_true_eq, List.all_eq_true, List.any_eq_true, List.mem_range, inPB_iff, bne_iff_ne]
  exact ⟨fun ⟨⟨⟨a, b⟩, c⟩, d⟩ => ⟨a, b, c, d⟩, fun h => ⟨⟨⟨h.two, h.few⟩, h.ok⟩, h.far⟩⟩

/-- Whether one of the first k is so. -/
def anyP (p : Nat → Bool) (k : Nat) : Bool := (List.range k).any p
theorem anyP_succ (p : Nat → Bool) (k : Nat) : anyP p (k + 1) = (anyP p k || p k) := by unfold anyP; rw [List.range_succ, List.any_append]; simp
theorem anyP_stop {p : Nat → Bool} {k n : Nat} (hk : k < n) (h : p k = true) : anyP p n = true := by unfold anyP; rw [List.any_eq_true]; exact ⟨k, List.mem_range.2 hk, h⟩

theorem isPoint_any (x y : Int) (w : World) : Calls Try.prog 73 #[.agg #[.int .i64 x, .int .i64 y]] w (RetB (inPB x y) w) := by
  cases h1 : btw (-100) x 100 with
  | true =>
    have E := Lib.hid (show inPB x y = btw (-1000) y 1000 by unfold inPB; rw [h1]; rfl)
    have H1 := Lib.hid h1
    clear h1
    go_enter Try.func73, Try.ntmps73
    go_wp2_with (first
      | (go_at_call 70; (with_reducible refine (between_any (-100) x 100 _).mono ?_); rintro e w1 ⟨rfl, rfl⟩; rw [H1.out])
      | (go_at_call 70; (with_reducible refine (between_any (-1000) y 1000 _).mono ?_); rintro e w1 ⟨rfl, rfl⟩))
    go_ret
    rw [E.out]
    exact ⟨rfl, (Gr.refl w).alloc _⟩
  | false =>
    have E := Lib.hid (show inPB x y = false by unfold inPB; rw [h1]; rfl)
    have H1 := Lib.hid h1
    clear h1
    go_enter Try.func73, Try.ntmps73
    go_wp2_with (go_at_call 70; (with_reducible refine (between_any (-100) x 100 _).mono ?_); rintro e w1 ⟨rfl, rfl⟩; rw [H1.out])
    go_ret
    rw [E.out]
    exact ⟨rfl, (Gr.refl w).alloc _⟩

theorem IsPoint_any (x y : Int) (w : World) : Calls Try.prog 56 #[.agg #[.int .i64 x, .int .i64 y]] w (RetB (inPB x y) w) := by
  by_cases a1 : -100 ≤ x
  · by_cases a2 : x ≤ 100
    · by_cases a3 : -1000 ≤ y
      · by_cases a4 : y ≤ 1000
        · have E := Lib.hid (show inPB x y = true by rw [inPB_iff]; unfold InP; omega)
          go_enter Try.func56, Try.ntmps56
          go_wp2_with fail
          go_ret
          rw [E.out]
          exact ⟨rfl, (Gr.refl w).alloc _⟩
        · have E := Lib.hid (show inPB x y = false by rw [Bool.eq_false_iff]; intro h; rw [inPB_iff] at h; unfold InP at h; omega)
          have d4 : decide (y ≤ 1000) = false := by simp; omega
          go_enter Try.func56, Try.ntmps56
          go_wp2_with fail
          go_ret
          rw [E.out]
          exact ⟨rfl, (Gr.refl w).alloc _⟩
      · have E := Lib.hid (show inPB x y = false by rw [Bool.eq_false_iff]; intro h; rw [inPB_iff] at h; unfold InP at h; omega)
        have d4 : decide (-1000 ≤ y) = false := by simp; omega
        go_enter Try.func56, Try.ntmps56
        go_wp2_with fail
        go_ret
        rw [E.out]
        exact ⟨rfl, (Gr.refl w).alloc _⟩
    · have E := Lib.hid (show inPB x y = false by rw [Bool.eq_false_iff]; intro h; rw [inPB_iff] at h; unfold InP at h; omega)
      have d4 : decide (x ≤ 100) = false := by simp; omega
      go_enter Try.func56, Try.ntmps56
      go_wp2_with fail
      go_ret
      rw [E.out]
      exact ⟨rfl, (Gr.refl w).alloc _⟩
  · have E := Lib.hid (show inPB x y = false by rw [Bool.eq_false_iff]; intro h; rw [inPB_iff] at h; unfold InP at h; omega)
    have d4 : decide (-100 ≤ x) = false := by simp; omega
    go_enter Try.func56, Try.ntmps56
    go_wp2_with fail
    go_ret
    rw [E.out]
    exact ⟨rfl, (Gr.refl w).alloc _⟩

theorem Valid1_any (x y : Int) (w : World) : Calls Try.prog 72 #[.agg #[.int .i64 x, .int .i64 y]] w (RetB (!inPB x y) w) := by
  go_enter Try.func72, Try.ntmps72
  go_wp2_with (go_at_call 73; refine (isPoint_any x y _).mono ?_; rintro e w1 ⟨rfl, g1⟩)
  go_ret
  exact ⟨rfl, ((Gr.refl w).alloc _).trans g1⟩

/-- An index where one is so, or a number below 0. -/
def RetIx (p : Nat → Bool) (n : Nat) (w : World) (e : Ending) (w' : World) : Prop := ∃ z : Int, e = .returned (.int .i64 z) ∧ decide (0 ≤ z) = anyP p n ∧ Gr w w'

theorem IndexFuncA_any (F : Nat) (hcf : ∀ (args : Array Value) (wz : World), (callFunc F args).run Try.prog wz = .ok (.enter F args) wz) (p : Nat → Bool) (a : Option Addr) (n c : Nat) (X Y : Nat → Int) (w : World) (hn : n ≤ 1000) (hr : RdM w a n X Y)
    (H : Hid (∀ j, j < n → ∀ wz, Gr w wz → Calls Try.prog F #[.agg #[.int .i64 (X j), .int .i64 (Y j)]] wz (RetB (p j) wz))) :
    Calls Try.prog 92 #[.slice a n c, .func (.func F) #[] #[]] w (RetIx p n w) := by
  have HR := Lib.hid hr
  clear hr
  go_enter Try.func92, Try.ntmps92
  go_wp2_with fail
  go_loopw [8] (fun i wr => ∃ k : Nat, k ≤ n ∧ i = .int .i64 k ∧ Hid (anyP p k = false) ∧ Gr w wr) (fun i _ => n - (intOf i).toNat)
  case atStart => exact ⟨0, Nat.zero_le _, rfl, rfl, Gr.refl _⟩
  case round =>
    obtain ⟨k, hk, rfl, Hi, hg⟩ := hrel
    by_cases hlt : k < n
    · obtain ⟨b, o, rfl, hc⟩ := (HR.out.gr hg).at hlt
      obtain ⟨c1, c2⟩ := hc k hlt
      have i1 : (k : Int) < n := by omega
      have C := Lib.hid (H.out k hlt wr hg)
      have S := Lib.hid (anyP_succ p k)
      have ST := Lib.hid (fun h => anyP_stop (p := p) hlt h)
      clear hc hlt
      generalize p k = pk at C S ST
      generalize X k = x at *
      generalize Y k = y at *
      cases pk with
      | true =>
        go_wp2_with fail
        refine C.out.mono ?_
        rintro e w1 ⟨rfl, g1⟩
        clear c1 c2
        go_wp2_with fail
        go_ret
        exact ⟨(k : Int), rfl, by rw [ST.out trivial]; simp, hg.trans g1⟩
      | false =>
        have S' := Lib.hid (show anyP p (k + 1) = false by rw [S.out, Hi.out]; rfl)
        go_wp2_with fail
        refine C.out.mono ?_
        rintro e w1 ⟨rfl, g1⟩
        clear c1 c2
        go_wp2_with fail
        go_roundw
        case rel => exact ⟨k + 1, by omega, by go_num, S', hg.trans g1⟩
        case measure => simp [intOf]; omega
    · obtain rfl : k = n := by omega
      go_wp2_with fail
      go_ret
      exact ⟨-1, rfl, by rw [Hi.out]; rfl, hg⟩

theorem ContainsFuncA_any (F : Nat) (hcf : ∀ (args : Array Value) (wz : World), (callFunc F args).run Try.prog wz = .ok (.enter F args) wz) (p : Nat → Bool) (a : Option Addr) (n c : Nat) (X Y : Nat → Int) (w : World) (hn : n ≤ 1000) (hr : RdM w a n X Y)
    (H : Hid (∀ j, j < n → ∀ wz, Gr w wz → Calls Try.prog F #[.agg #[.int .i64 (X j), .int .i64 (Y j)]] wz (RetB (p j) wz))) :
    Calls Try.prog 71 #[.slice a n c, .func (.func F) #[] #[]] w (RetB (anyP p n) w) := by
  have C := Lib.hid (IndexFuncA_any F hcf p a n c X Y w hn hr H)
  clear H hr hcf
  go_enter Try.func71, Try.ntmps71
  go_wp2_with (go_at_call 92; (with_reducible refine C.out.mono ?_); rintro e w1 ⟨z, rfl, hz, g1⟩; have HZ := Lib.hid hz; clear hz)
  go_ret
  rw [← HZ.out]
  exact ⟨rfl, g1⟩

theorem IndexFuncB_any (F : Nat) (u : Value) (hcf : ∀ (args : Array Value) (wz : World), (callFunc F args).run Try.prog wz = .ok (.enter F args) wz) (p : Nat → Bool) (a : Option Addr) (n c : Nat) (X Y : Nat → Int) (w : World) (hn : n ≤ 1000) (hr : RdM w a n X Y)
    (H : Hid (∀ j, j < n → ∀ wz, Gr w wz → Calls Try.prog F #[.agg #[.int .i64 (X j), .int .i64 (Y j)], u] wz (RetB (p j) wz))) :
    Calls Try.prog 92 #[.slice a n c, .func (.func F) #[] #[u]] w (RetIx p n w) := by
  have HR := Lib.hid hr
  clear hr
  go_enter Try.func92, Try.ntmps92
  go_wp2_with fail
  go_loopw [8] (fun i wr => ∃ k : Nat, k ≤ n ∧ i = .int .i64 k ∧ Hid (anyP p k = false) ∧ Gr w wr) (fun i _ => n - (intOf i).toNat)
  case atStart => exact ⟨0, Nat.zero_le _, rfl, rfl, Gr.refl _⟩
  case round =>
    obtain ⟨k, hk, rfl, Hi, hg⟩ := hrel
    by_cases hlt : k < n
    · obtain ⟨b, o, rfl, hc⟩ := (HR.out.gr hg).at hlt
      obtain ⟨c1, c2⟩ := hc k hlt
      have i1 : (k : Int) < n := by omega
      have C := Lib.hid (H.out k hlt wr hg)
      have S := Lib.hid (anyP_succ p k)
      have ST := Lib.hid (fun h => anyP_stop (p := p) hlt h)
      clear hc hlt
      generalize p k = pk at C S ST
      generalize X k = x at *
      generalize Y k = y at *
      cases pk with
      | true =>
        go_wp2_with fail
        refine C.out.mono ?_
        rintro e w1 ⟨rfl, g1⟩
        clear c1 c2
        go_wp2_with fail
        go_ret
        exact ⟨(k : Int), rfl, by rw [ST.out trivial]; simp, hg.trans g1⟩
      | false =>
        have S' := Lib.hid (show anyP p (k + 1) = false by rw [S.out, Hi.out]; rfl)
        go_wp2_with fail
        refine C.out.mono ?_
        rintro e w1 ⟨rfl, g1⟩
        clear c1 c2
        go_wp2_with fail
        go_roundw
        case rel => exact ⟨k + 1, by omega, by go_num, S', hg.trans g1⟩
        case measure => simp [intOf]; omega
    · obtain rfl : k = n := by omega
      go_wp2_with fail
      go_ret
      exact ⟨-1, rfl, by rw [Hi.out]; rfl, hg⟩

theorem ContainsFuncB_any (F : Nat) (u : Value) (hcf : ∀ (args : Array Value) (wz : World), (callFunc F args).run Try.prog wz = .ok (.enter F args) wz) (p : Nat → Bool) (a : Option Addr) (n c : Nat) (X Y : Nat → Int) (w : World) (hn : n ≤ 1000) (hr : RdM w a n X Y)
    (H : Hid (∀ j, j < n → ∀ wz, Gr w wz → Calls Try.prog F #[.agg #[.int .i64 (X j), .int .i64 (Y j)], u] wz (RetB (p j) wz))) :
    Calls Try.prog 71 #[.slice a n c, .func (.func F) #[] #[u]] w (RetB (anyP p n) w) := by
  have C := Lib.hid (IndexFuncB_any F u hcf p a n c X Y w hn hr H)
  clear H hr hcf
  go_enter Try.func71, Try.ntmps71
  go_wp2_with (go_at_call 92; (with_reducible refine C.out.mono ?_); rintro e w1 ⟨z, rfl, hz, g1⟩; have HZ := Lib.hid hz; clear hz)
  go_ret
  rw [← HZ.out]
  exact ⟨rfl, g1⟩

theorem cf72 (args : Array Value) (wz : World) : (callFunc 72 args).run Try.prog wz = .ok (.enter 72 args) wz := by kernel_rfl
theorem cf74 (args : Array Value) (wz : World) : (callFunc 74 args).run Try.prog wz = .ok (.enter 74 args) wz := by kernel_rfl

theorem Valid2_any (x y : Int) (bs : Nat) (a : Option Addr) (n c : Nat) (X Y : Nat → Int) (w : World) (hp : 1 ≤ n) (hr : RdM w a n X Y) (hb : w.cell? ⟨bs, 0, none⟩ = some (.slice a n c)) :
    Calls Try.prog 74 #[.agg #[.int .i64 x, .int .i64 y], .pointer (some ⟨bs, 0, none⟩)] w (RetB (x != X 0) w) := by
  have g0 := (Gr.refl w).alloc (.cells #[.int .i64 x, .int .i64 y] 56)
  obtain ⟨b, o, rfl, hc⟩ := (hr.gr g0).at hp
  obtain ⟨c1, c2⟩ := hc 0 hp
  rw [Nat.zero_mul, Nat.add_zero] at c1
  have hb' := g0.cell hb
  have i1 : (0 : Int) < (n : Int) := by omega
  clear hr hb hc c2 g0
  go_enter Try.func74, Try.ntmps74
  go_wp2_with fail
  go_quiet (fail)
  go_wp2_with fail
  go_ret
  exact ⟨rfl, ((Gr.refl w).alloc _).drewN _⟩

theorem vP_len {n : Nat} {X Y : Nat → Int} (h : ¬ (2 ≤ n ∧ n ≤ 12)) : vP n X Y = false := by
  rw [Bool.eq_false_iff]
  intro hv
  have := vP_iff.1 hv
  exact h ⟨this.two, this.few⟩
theorem vP_eq {n : Nat} {X Y : Nat → Int} (h1 : 2 ≤ n) (h2 : n ≤ 12) : vP n X Y = (!(anyP (fun j => !inPB (X j) (Y j)) n) && anyP (fun j => X j != X 0) n) := by
  unfold vP anyP
  rw [decide_eq_true h1, decide_eq_true h2, List.not_any_eq_all_not]
  simp

theorem Valid_any (a : Option Addr) (n c : Nat) (X Y : Nat → Int) (w : World) (hn : n ≤ 1000) (hr : RdM w a n X Y) :
    Calls Try.prog 28 #[.slice a n c] w (RetB (vP n X Y) w) := by
  have HR := Lib.hid hr
  have hmf : ∀ (fn : Fn) (first cap : Array Value) (w : World), (Instr.makeFunc fn first cap).run Try.prog w = .ok (.func fn first cap) w := fun _ _ _ _ => rfl
  have G0 := Lib.hid ((Gr.refl w).alloc (.cells #[.slice a n c] 22))
  have cb := ((Gr.refl (w.alloc (.cells #[.slice a n c] 22))).fresh' (b := w.heap.size) (j := 0) (v := .slice a n c) rfl rfl).1
  clear hr
  by_cases h : 2 ≤ n ∧ n ≤ 12
  · obtain ⟨h1, h2⟩ := h
    have B := Lib.hid (show btw 2 n 12 = true from btw_true.2 ⟨by omega, by omega⟩)
    have E := Lib.hid (vP_eq (X := X) (Y := Y) h1 h2)
    have CB := Lib.hid cb
    have C1 := Lib.hid (ContainsFuncA_any 72 cf72 (fun j => !inPB (X j) (Y j)) a n c X Y _ hn (HR.out.gr G0.out) (Lib.hid fun j _ wz _ => Valid1_any (X j) (Y j) wz))
    have C2 := Lib.hid (fun w' (g : Gr (w.alloc (.cells #[.slice a n c] 22)) w') => ContainsFuncB_any 74 (.pointer (some ⟨w.heap.size, 0, none⟩)) cf74 (fun j => X j != X 0) a n c X Y w' hn ((HR.out.gr G0.out).gr g) (Lib.hid fun j _ wz g2 => Valid2_any (X j) (Y j) w.heap.size a n c X Y wz (by omega) (((HR.out.gr G0.out).gr g).gr g2) (g2.cell (g.cell CB.out))))
    clear cb
    cases h3 : anyP (fun j => !inPB (X j) (Y j)) n with
    | true =>
      have E2 := Lib.hid (show vP n X Y = false by rw [E.out, h3]; rfl)
      rw [h3] at C1
      have cb := CB.out
      clear h3 C2 E CB
      go_enter Try.func28, Try.ntmps28
      go_wp2_with (first
        | (go_at_call 70; (with_reducible refine (between_any 2 n 12 _).mono ?_); rintro e w1 ⟨rfl, rfl⟩; rw [B.out])
        | (go_at_call 71; (with_reducible refine C1.out.mono ?_); rintro e w2 ⟨rfl, g1⟩))
      go_ret
      rw [E2.out]
      exact ⟨rfl, G0.out.trans g1⟩
    | false =>
      have E2 := Lib.hid (show vP n X Y = anyP (fun j => X j != X 0) n by rw [E.out, h3]; rfl)
      rw [h3] at C1
      have cb := CB.out
      clear h3 E
      go_enter Try.func28, Try.ntmps28
      go_wp2_with (first
        | (go_at_call 70; (with_reducible refine (between_any 2 n 12 _).mono ?_); rintro e w1 ⟨rfl, rfl⟩; rw [B.out])
        | (go_at_call 71; (with_reducible refine C1.out.mono ?_); rintro e w2 ⟨rfl, g1⟩; have cb2 := g1.cell CB.out; have G1 := Lib.hid g1; clear g1 cb)
        | (go_at_call 71; (with_reducible refine (C2.out _ G1.out).mono ?_); rintro e w3 ⟨rfl, g2⟩))
      go_ret
      rw [E2.out]
      exact ⟨rfl, (G0.out.trans G1.out).trans g2⟩
  · have B := Lib.hid (show btw 2 n 12 = false from btw_false.2 (by omega))
    have E := Lib.hid (vP_len (X := X) (Y := Y) h)
    clear h
    go_enter Try.func28, Try.ntmps28
    go_wp2_with (go_at_call 70; (with_reducible refine (between_any 2 n 12 _).mono ?_); rintro e w1 ⟨rfl, rfl⟩; rw [B.out])
    go_ret
    rw [E.out]
    exact ⟨rfl, G0.out⟩

end Go.Proofs.Ytbhndfnfohoidaa
