/- Contracts of chapter 1: Rounds of the program and of the reference, SameInts, Awake. -/
import Derived.Test.YtdlbgelidcfmiaaGreatDoorW6
namespace Go.Proofs.YtdlbgelidcfmiaaGreatDoor
open Go.RowKit Go.Firn

/-- An int and an error. -/
def RetIE (x err : Int) (w : World) (e : Ending) (w' : World) : Prop := e = .returned (.tuple #[.int .i64 x, .int .i64 err]) ∧ Gr w w'

set_option maxRecDepth 100000 in
theorem Rounds_ok (b : Int) (a : Option Addr) (n c : Nat) (f : Nat → Int) (w : World) (hn : n ≤ 9223372036854775807) (hr : RdI w a n f) (hv : vR b n f = true) :
    Calls Tryz.prog 20 #[.int .i64 b, .slice a n c] w (RetIE (cst (pw b) f n / pw b) 0 w) := by
  have e0 := Lib.hid (show errOf b (vR b n f) = 0 by obtain ⟨h1, h2, _⟩ := vR_true.1 hv; simp [errOf, hv, isBits_true.2 ⟨h1, h2⟩])
  obtain ⟨b1, b2, n1, n2, hf⟩ := vR_true.1 hv
  have Hf := Lib.hid hf
  have Hv := Lib.hid hv
  clear hf hv
  have p0 := pw_pos b
  have p1 := pw_le b2
  have N := Lib.hid (show nOf (vR b n f) n = n by rw [Hv.out]; rfl)
  have i1 : (0 : Int) ≤ (n : Int) - 1 := by omega
  have i2 : (n : Int) - 1 < n := by omega
  have k1 : ((n : Int) - 1).toNat = n - 1 := by omega
  go_enter Tryz.func20, Tryz.ntmps20
  go_wp2_with (first
    | (go_at_call 6; refine (Counts_any b a n c f _ hn hr).mono ?_; rintro e w' ⟨a', c', rfl, hc1, hc2, hr', hg⟩; rw [e0.out, N.out]; rw [N.out] at hr' hc1; obtain ⟨bb, o, rfl, hc⟩ := hr'.at (k := n - 1) (by omega); have hck := hc (n - 1) (by omega); rw [Nat.sub_add_cancel (by omega)] at hck; clear hc hr'))
  go_ret2
  refine ⟨?_, hg⟩
  show Ending.returned (.tuple #[.int .i64 (cst (pw b) f n / 2 ^ b.toNat), .int .i64 0]) = _
  rw [pw_eq]

theorem Rounds_any (b : Int) (a : Option Addr) (n c : Nat) (f : Nat → Int) (w : World) (hn : n ≤ 9223372036854775807) (hr : RdI w a n f) :
    Calls Tryz.prog 20 #[.int .i64 b, .slice a n c] w (RetIE (if vR b n f then cst (pw b) f n / pw b else 0) (errOf b (vR b n f)) w) := by
  cases hv : vR b n f with
  | true =>
    have e0 : errOf b true = 0 := by obtain ⟨h1, h2, _⟩ := vR_true.1 hv; simp [errOf, isBits_true.2 ⟨h1, h2⟩]
    rw [e0, if_pos rfl]
    exact Rounds_ok b a n c f w hn hr hv
  | false =>
    have Hv := Lib.hid hv
    have N := Lib.hid (show nOf (vR b n f) n = 0 by rw [Hv.out]; rfl)
    have hne : errOf b false ≠ 0 := by unfold errOf; split <;> simp
    have e1 := Lib.hid (show errOf b (vR b n f) = errOf b false by rw [hv])
    rw [if_neg (by simp)]
    clear hv
    generalize errOf b false = er at *
    go_enter Tryz.func20, Tryz.ntmps20
    go_wp2_with (first
      | (go_at_call 6; refine (Counts_any b a n c f _ hn hr).mono ?_; rintro e w' ⟨a', c', rfl, hc1, hc2, hr', hg⟩; rw [e1.out]))
    go_ret2
    exact ⟨rfl, hg⟩

/-- Are the first n numbers of both lists the same? -/
def eqB (n m : Nat) (f g : Nat → Int) : Bool := decide (n = m) && (List.range n).all fun i => decide (f i = g i)
theorem eqB_true {n m : Nat} {f g : Nat → Int} : eqB n m f g = true ↔ n = m ∧ ∀ i, i < n → f i = g i := by simp [eqB]
theorem eqB_false_of {n m k : Nat} {f g : Nat → Int} (hk : k < n) (h : f k ≠ g k) : eqB n m f g = false := by
  cases e : eqB n m f g with
  | false => rfl
  | true => exact absurd ((eqB_true.1 e).2 k hk) h

def RetDB (b : Bool) (w : World) (e : Ending) (w' : World) : Prop := e = .returned (.bool b) ∧ ∃ m, w' = w.drewN m

theorem drewN_more {w wr : World} (h : ∃ m, wr = w.drewN m) (k : Nat) : ∃ m, wr.drewN k = w.drewN m := by
  obtain ⟨m, rfl⟩ := h; exact ⟨_, World.drewN_drewN _ _ _⟩

theorem SameInts_q (a a' : Option Addr) (n c n' c' : Nat) (f g : Nat → Int) (w : World) (hn : n ≤ 9223372036854775807) (hn' : n' ≤ 9223372036854775807) (hr : RdI w a n f) (hr' : RdI w a' n' g) :
    Calls Tryz.prog 9 #[.slice a n c, .slice a' n' c'] w (RetDB (eqB n n' f g) w) := by
  by_cases hnn : n = n'
  rotate_left
  · have E := Lib.hid (show eqB n n' f g = false by simp [eqB, hnn])
    have hne : (n : Int) ≠ n' := by omega
    go_enter Tryz.func9, Tryz.ntmps9
    go_wp2
    go_ret
    rw [E.out]; exact ⟨rfl, 0, rfl⟩
  subst hnn
  go_enter Tryz.func9, Tryz.ntmps9
  go_wp2
  go_loopw [5, 13] (fun _ i wr => ∃ k : Nat, k ≤ n ∧ i = .int .i64 k ∧ Hid (∀ i, i < k → f i = g i) ∧ ∃ m, wr = w.drewN m) (fun _ i _ => n - (intOf i).toNat)
  case atStart => exact ⟨0, by omega, rfl, fun i hi => by omega, 0, rfl⟩
  case round =>
    obtain ⟨k, hk, rfl, H1, hm⟩ := hrel
    have hg : Gr w wr := by obtain ⟨m, rfl⟩ := hm; exact (Gr.refl w).drewN m
    have Hm := Lib.hid hm
    clear hm
    by_cases hlt : k < n
    · obtain ⟨b, o, rfl, hc⟩ := hr.at hlt
      obtain ⟨b', o', rfl, hc'⟩ := hr'.at hlt
      have hck := hg.cell (hc k hlt)
      have hck' := hg.cell (hc' k hlt)
      clear hc hr hc' hr'
      have i3 : (0 : Int) ≤ (k : Int) := by omega
      have i4 : (k : Int) < n := by omega
      by_cases ht : f k = g k
      · have H1' : Hid (∀ i, i < k + 1 → f i = g i) := fun i hi => by
          by_cases e : i = k
          · subst e; exact ht
          · exact H1.out i (by omega)
        have t1 : (f k != g k) = false := by simp [ht]
        have Ht := Lib.hid ht
        clear ht
        go_wp2
        go_quiet (fail)
        go_wp2
        go_roundw
        case rel => exact ⟨k + 1, by omega, by go_num, H1', drewN_more Hm.out _⟩
        case measure => simp [intOf]; omega
      · have E := Lib.hid (show eqB n n f g = false from eqB_false_of hlt ht)
        have t1 : (f k != g k) = true := by simp [ht]
        go_wp2
        go_quiet (fail)
        go_wp2
        go_ret
        rw [E.out]; exact ⟨rfl, drewN_more Hm.out _⟩
    · have : k = n := by omega
      subst this
      have E := Lib.hid (show eqB k k f g = true from eqB_true.2 ⟨rfl, H1.out⟩)
      go_wp2_with fail
      go_ret
      rw [E.out]; exact ⟨rfl, Hm.out⟩

theorem SameInts_any (a a' : Option Addr) (n c n' c' : Nat) (f g : Nat → Int) (w : World) (hn : n ≤ 9223372036854775807) (hn' : n' ≤ 9223372036854775807) (hr : RdI w a n f) (hr' : RdI w a' n' g) :
    Calls Tryz.prog 9 #[.slice a n c, .slice a' n' c'] w (RetB (eqB n n' f g) w) :=
  (SameInts_q a a' n c n' c' f g w hn hn' hr hr').mono fun _ _ ⟨h, _, e⟩ => ⟨h, by rw [e]; exact (Gr.refl w).drewN _⟩

end Go.Proofs.YtdlbgelidcfmiaaGreatDoor
