/- Contracts of chapter 5: which points are valid, of the reference; Long. -/
import Derived.Test.YtbhndfnfohoidaaW4
namespace Go.Proofs.Ytbhndfnfohoidaa
open Go.RowKit Go.Firn

theorem vP_bad {n k : Nat} {X Y : Nat → Int} (hk : k < n) (h : inPB (X k) (Y k) = false) : vP n X Y = false := by
  rw [Bool.eq_false_iff]
  intro hv
  have := inPB_iff.2 ((vP_iff.1 hv).ok k hk)
  rw [h] at this; cases this
theorem vP_end {n : Nat} {X Y : Nat → Int} (h1 : 2 ≤ n) (h2 : n ≤ 12) (h : ∀ i, i < n → inPB (X i) (Y i) = true) : vP n X Y = anyP (fun j => X j != X 0) n := by
  unfold vP anyP
  rw [decide_eq_true h1, decide_eq_true h2]
  have : ((List.range n).all fun i => inPB (X i) (Y i)) = true := by rw [List.all_eq_true]; intro i hi; exact h i (List.mem_range.1 hi)
  rw [this]
  rfl

set_option maxHeartbeats 1000000 in
theorem refValid_any (a : Option Addr) (n c : Nat) (X Y : Nat → Int) (w : World) (hn : n ≤ 1000) (hr : RdM w a n X Y) :
    Calls Try.prog 29 #[.slice a n c] w (RetB (vP n X Y) w) := by
  have HR := Lib.hid hr
  clear hr
  by_cases h : 2 ≤ n ∧ n ≤ 12
  · obtain ⟨h1, h2⟩ := h
    have d1 : ¬ (n : Int) < 2 := by omega
    have d2 : ¬ (12 : Int) < (n : Int) := by omega
    have N0 := Lib.hid (show 0 < n by omega)
    have H1 := Lib.hid h1
    have H2 := Lib.hid h2
    go_enter Try.func29, Try.ntmps29
    go_wp2_with fail
    clear d1 d2 h1 h2
    go_loopw [3, 16] (fun st sk wr => ∃ k : Nat, k ≤ n ∧ sk = .int .i64 k ∧ st = .bool (anyP (fun j => X j != X 0) k) ∧ Hid (∀ i, i < k → inPB (X i) (Y i) = true) ∧ Gr w wr) (fun _ sk _ => n - (intOf sk).toNat)
    case atStart => exact ⟨0, Nat.zero_le _, rfl, rfl, fun i hi => by omega, Gr.refl _⟩
    case round =>
      obtain ⟨k, hk, rfl, rfl, Hi, hg⟩ := hrel
      by_cases hlt : k < n
      · have R := Lib.hid (HR.out.gr hg)
        obtain ⟨b, o, ea, hc⟩ := (HR.out.gr hg).at hlt
        subst ea
        obtain ⟨c1, c2⟩ := hc k hlt
        obtain ⟨c0, _⟩ := hc 0 N0.out
        rw [Nat.zero_mul, Nat.add_zero] at c0
        have C0 := Lib.hid c0
        have i1 : (k : Int) < n := by omega
        have n0 : (0 : Int) < n := by omega
        have G1 := Lib.hid ((Gr.refl wr).alloc (.cells #[.int .i64 (X k), .int .i64 (Y k)] 56))
        have S := Lib.hid (anyP_succ (fun j => X j != X 0) k)
        have C := Lib.hid (fun w' => IsPoint_any (X k) (Y k) w')
        cases hp : inPB (X k) (Y k) with
        | false =>
          have E := Lib.hid (vP_bad hlt hp)
          rw [hp] at C
          clear hc c0 hp
          go_wp2_with (go_at_call 56; (with_reducible refine (C.out _).mono ?_); rintro e w1 ⟨rfl, g1⟩)
          go_ret
          rw [E.out]
          exact ⟨rfl, (hg.trans G1.out).trans g1⟩
        | true =>
          have HI := Lib.hid (show ∀ i, i < k + 1 → inPB (X i) (Y i) = true from fun i hi => by
            by_cases e : i = k
            · subst e; exact hp
            · exact Hi.out i (by omega))
          rw [hp] at C
          clear hc c0 hp
          cases ht : anyP (fun j => X j != X 0) k with
          | true =>
            have S' := Lib.hid (show anyP (fun j => X j != X 0) (k + 1) = true by rw [S.out, ht]; rfl)
            clear ht S
            go_wp2_with (go_at_call 56; (with_reducible refine (C.out _).mono ?_); rintro e w1 ⟨rfl, g1⟩)
            go_quiet (fail)
            go_wp2_with fail
            go_roundw
            case rel => exact ⟨k + 1, by omega, by go_num, by rw [S'.out], HI, ((hg.trans G1.out).trans g1).drewN _⟩
            case measure => simp [intOf]; omega
          | false =>
            have S' := Lib.hid (show anyP (fun j => X j != X 0) (k + 1) = (X k != X 0) by rw [S.out, ht]; rfl)
            clear ht S
            go_wp2_with (go_at_call 56; (with_reducible refine (C.out _).mono ?_); rintro e w1 ⟨rfl, g1⟩; have x0 := (G1.out.trans g1).cell C0.out; have x1 := (g1.fresh' (b := wr.heap.size) (j := 0) (v := .int .i64 (X k)) rfl rfl).1)
            go_quiet (fail)
            go_wp2_with fail
            go_roundw
            case rel => exact ⟨k + 1, by omega, by go_num, by rw [S'.out], HI, ((hg.trans G1.out).trans g1).drewN _⟩
            case measure => simp [intOf]; omega
      · obtain rfl : k = n := by omega
        have E := Lib.hid (vP_end H1.out H2.out Hi.out)
        go_wp2_with fail
        go_ret
        rw [E.out]
        exact ⟨rfl, hg⟩
  · have E := Lib.hid (vP_len (X := X) (Y := Y) h)
    by_cases h1 : n < 2
    · have d1 : (n : Int) < 2 := by omega
      clear h
      go_enter Try.func29, Try.ntmps29
      go_wp2_with fail
      go_ret
      rw [E.out]
      exact ⟨rfl, Gr.refl _⟩
    · have d1 : ¬ (n : Int) < 2 := by omega
      have d2 : (12 : Int) < (n : Int) := by omega
      clear h h1
      go_enter Try.func29, Try.ntmps29
      go_wp2_with fail
      go_ret
      rw [E.out]
      exact ⟨rfl, Gr.refl _⟩

theorem Long_any (a : Option Addr) (n c : Nat) (w : World) (hn : n ≤ 9223372036854775807) :
    Calls Try.prog 15 #[.slice a n c] w fun e w' => e = .returned (.bool (decide (60 < n))) ∧ w = w' := by
  by_cases h : 60 < n
  · have d1 : (60 : Int) < n := by omega
    have e : decide (60 < n) = true := by simpa using h
    rw [e]
    clear h
    go_enter Try.func15, Try.ntmps15
    go_wp2
    go_ret
    exact ⟨rfl, rfl⟩
  · have d1 : ¬ (60 : Int) < n := by omega
    have e : decide (60 < n) = false := by simpa using h
    rw [e]
    clear h
    go_enter Try.func15, Try.ntmps15
    go_wp2
    go_ret
    exact ⟨rfl, rfl⟩

end Go.Proofs.Ytbhndfnfohoidaa
