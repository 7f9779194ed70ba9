/- Contracts of chapter 1: Inverse, Moved and Equal. -/
import Derived.Test.YtdlbgelidcfmiaaGreatDoorW19
namespace Go.Proofs.YtdlbgelidcfmiaaGreatDoor
open Go.RowKit Go.Firn

theorem cf75 (args : Array Value) (wz : World) : (callFunc 30 args).run Tryz.prog wz = .ok (.enter 30 args) wz := by kernel_rfl

/-- A list if two tests say yes. -/
def okL (v r : Bool) (l : List (Int × Int)) : List (Int × Int) := if v && r then l else []

set_option maxRecDepth 100000 in
theorem Inverse_any (a : Option Addr) (n c : Nat) (L T : Nat → Int) (w : World) (hn : n ≤ 9223372036854775807) (hr : RdM w a n L T) :
    Calls Tryz.prog 12 #[.slice a n c] w (RetMs (okL (vK n L T) true (pairs n T L)) (okE (vK n L T) true) w) := by
  cases hv : vK n L T with
  | false =>
    have Hv := Lib.hid hv
    clear hv
    go_enter Tryz.func12, Tryz.ntmps12
    go_wp2_with fail
    refine (ValidClock_any a n c L T _ hn hr).mono ?_
    rintro e w1 ⟨rfl, g⟩
    rw [Hv.out]
    go_wp2_with fail
    go_ret2
    exact (OwnM.nil' g 55).ret 11
  | true =>
    have Hv := Lib.hid hv
    have hn30 := (vK_true.1 hv).2.1
    clear hv
    go_enter Tryz.func12, Tryz.ntmps12
    go_wp2_with fail
    refine (ValidClock_any a n c L T _ hn hr).mono ?_
    rintro e w1 ⟨rfl, g⟩
    rw [Hv.out]
    go_wp2_with fail
    refine (changed_any 30 #[] cf75 a n c L T T L _ hn30 (hr.gr g) (fun j hj wz gz => inv1_any _ _ wz)).mono ?_
    rintro e w2 ⟨a2, c2, rfl, h1, h2, h3, g2⟩
    go_wp2_with fail
    go_ret2
    exact ⟨a2, c2, rfl, h1, h2, h3, g.trans g2⟩

/-- May the clock be moved by so much? -/
def mvB (n : Nat) (T : Nat → Int) (x : Int) : Bool := btw (-(T 0)) x (100000 - T (n - 1))
theorem asc_le {n : Nat} {T : Nat → Int} (hs : ∀ i, i + 1 < n → T i < T (i + 1)) {j k : Nat} (h : j ≤ k) (hk : k < n) : T j ≤ T k := by
  by_cases e : j = k
  · subst e; exact Int.le_refl _
  · exact Int.le_of_lt (asc_lt hs (by omega) hk)
theorem mvB_all {n : Nat} {L T : Nat → Int} {x : Int} (hv : vK n L T = true) (h : mvB n T x = true) {k : Nat} (hk : k < n) : 0 ≤ T k + x ∧ T k + x ≤ 100000 := by
  obtain ⟨h2, _, _, hs⟩ := vK_true.1 hv
  have m := btw_true.1 h
  have a := asc_le (fun i hi => (hs i hi).2) (Nat.zero_le k) hk
  have b := asc_le (fun i hi => (hs i hi).2) (show k ≤ n - 1 by omega) (by omega)
  omega

/-- Are two lists of pairs the same? -/
def eqM (n m : Nat) (f g f' g' : Nat → Int) : Bool := decide (n = m) && (List.range n).all fun i => decide (f i = f' i ∧ g i = g' i)
theorem eqM_true {n m : Nat} {f g f' g' : Nat → Int} : eqM n m f g f' g' = true ↔ n = m ∧ ∀ i, i < n → f i = f' i ∧ g i = g' i := by simp [eqM]
theorem eqM_false_of {n m k : Nat} {f g f' g' : Nat → Int} (hk : k < n) (h : ¬ (f k = f' k ∧ g k = g' k)) : eqM n m f g f' g' = false := by
  cases e : eqM n m f g f' g' with
  | false => rfl
  | true => exact absurd ((eqM_true.1 e).2 k hk) h

set_option maxRecDepth 100000 in
theorem Equal_q (a a' : Option Addr) (n c n' c' : Nat) (f g f' g' : Nat → Int) (w : World) (hn : n ≤ 9223372036854775807) (hn' : n' ≤ 9223372036854775807) (hr : RdM w a n f g) (hr' : RdM w a' n' f' g') :
    Calls Tryz.prog 17 #[.slice a n c, .slice a' n' c'] w (RetDB (eqM n n' f g f' g') w) := by
  by_cases hnn : n = n'
  rotate_left
  · have E := Lib.hid (show eqM n n' f g f' g' = false by simp [eqM, hnn])
    have hne : (n : Int) ≠ n' := by omega
    go_enter Tryz.func17, Tryz.ntmps17
    go_wp2
    go_ret
    rw [E.out]; exact ⟨rfl, 0, rfl⟩
  subst hnn
  go_enter Tryz.func17, Tryz.ntmps17
  go_wp2
  go_loopw [5, 13] (fun _ i wr => ∃ k : Nat, k ≤ n ∧ i = .int .i64 k ∧ Hid (∀ i, i < k → f i = f' i ∧ g i = g' i) ∧ Hid (∃ m, wr = w.drewN m)) (fun _ i _ => n - (intOf i).toNat)
  case atStart => exact ⟨0, by omega, rfl, fun i hi => by omega, 0, rfl⟩
  case round =>
    obtain ⟨k, hk, rfl, H1, Hm⟩ := hrel
    have hg : Gr w wr := by obtain ⟨m, rfl⟩ := Hm.out; exact (Gr.refl w).drewN m
    by_cases hlt : k < n
    · obtain ⟨b, o, rfl, hc⟩ := hr.at hlt
      obtain ⟨b', o', rfl, hc'⟩ := hr'.at hlt
      have c1 := hg.cell (hc k hlt).1
      have c2 := hg.cell (hc k hlt).2
      have c3 := hg.cell (hc' k hlt).1
      have c4 := hg.cell (hc' k hlt).2
      clear hc hr hc' hr'
      have i3 : (0 : Int) ≤ (k : Int) := by omega
      have i4 : (k : Int) < n := by omega
      by_cases ht : f k = f' k
      · by_cases ht2 : g k = g' k
        · have H1' : Hid (∀ i, i < k + 1 → f i = f' i ∧ g i = g' i) := fun i hi => by
            by_cases e : i = k
            · subst e; exact ⟨ht, ht2⟩
            · exact H1.out i (by omega)
          rw [← ht] at c3
          rw [← ht2] at c4
          clear ht ht2
          go_wp2
          go_quiet (fail)
          go_wp2
          go_roundw
          case rel => exact ⟨k + 1, by omega, by go_num, H1', drewN_more Hm.out _⟩
          case measure => simp [intOf]; omega
        · have E := Lib.hid (show eqM n n f g f' g' = false from eqM_false_of hlt (fun h => ht2 h.2))
          rw [← ht] at c3
          clear ht
          go_wp2
          go_quiet (fail)
          go_wp2
          go_ret
          rw [E.out]; exact ⟨rfl, drewN_more Hm.out _⟩
      · have E := Lib.hid (show eqM n n f g f' g' = false from eqM_false_of hlt (fun h => ht h.1))
        go_wp2
        go_quiet (fail)
        go_wp2
        go_ret
        rw [E.out]; exact ⟨rfl, drewN_more Hm.out _⟩
    · have : k = n := by omega
      subst this
      have E := Lib.hid (show eqM k k f g f' g' = true from eqM_true.2 ⟨rfl, H1.out⟩)
      go_wp2_with fail
      go_ret
      rw [E.out]; exact ⟨rfl, Hm.out⟩

end Go.Proofs.YtdlbgelidcfmiaaGreatDoor
