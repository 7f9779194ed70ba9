/- Contracts of chapter 9: between, the tokens of a product (of the program and of the reference), valid products. -/
import Derived.Test.YtehdemcfeoiecaaDoorRows
import Derived.Test.YtehdemcfeoiecaaDoorP1
import Derived.Test.YtehdemcfeoiecaaDoorShela
import Derived.Deep.QuietTactic
import Derived.BigQuiet
import Derived.BigRegion
import Derived.Deep.DeepCutAuto
import Derived.Deep.RegionHeld3
namespace Go.Proofs.YtehdemcfeoiecaaDoor
open Go.RowKit Go.Firn Go.Shelf

/-- A truth, nothing written, some draws. -/
def RetQ (b : Bool) (w : World) (e : Ending) (w' : World) : Prop := e = .returned (.bool b) ∧ ∃ m, w' = w.drewN m
theorem RetQ.b {b : Bool} {w w' : World} {e : Ending} (h : RetQ b w e w') : RetB b w e w' := by
  obtain ⟨h1, m, rfl⟩ := h
  exact ⟨h1, (Gr.refl w).drewN m⟩
theorem drewN_more {w w' : World} (h : ∃ m, w' = w.drewN m) (k : Nat) : ∃ m, w'.drewN k = w.drewN m := by
  obtain ⟨m, rfl⟩ := h
  exact ⟨m + k, by simp [World.drewN, Nat.add_assoc]⟩

theorem between_any (a n b : Int) (w : World) :
    Calls Tryd.prog 58 #[.int .i64 a, .int .i64 n, .int .i64 b] w fun e w' => e = .returned (.bool (btw a n b)) ∧ w' = w := by
  by_cases h1 : a ≤ n
  · have e : btw a n b = decide (n ≤ b) := by simp [btw, h1]
    go_enter Tryd.func58, Tryd.ntmps58
    go_wp2
    go_ret
    simp [e]
  · have e : btw a n b = false := by simp [btw, h1]
    have e' := Lib.hid e; clear e
    go_enter Tryd.func58, Tryd.ntmps58
    go_wp2
    go_ret
    simp [e'.out]

theorem isNaN8_any (x : Int) (w : World) : Calls Tryd.prog 124 #[.int .u8 x] w fun e w' => e = .returned (.bool false) ∧ w' = w := by
  go_enter Tryd.func124, Tryd.ntmps124
  go_wp2
  go_ret
  exact ⟨rfl, rfl⟩
theorem Less8_any (x y : Int) (w : World) : Calls Tryd.prog 93 #[.int .u8 x, .int .u8 y] w fun e w' => e = .returned (.bool (decide (x < y))) ∧ w' = w := by
  go_enter Tryd.func93, Tryd.ntmps93
  go_wp2_with (go_at_call 124; refine (isNaN8_any _ _).mono ?_; rintro e w1 ⟨rfl, rfl⟩)
  go_ret
  simp

set_option maxHeartbeats 600000 in
/-- The tokens of a product by the reference. -/
theorem isTokens_any (s : ByteArray) (hs : s.size ≤ 9223372036854775807) (w : World) : Calls Tryd.prog 44 #[.string s] w (RetQ (isTk s) w) := by
  go_enter Tryd.func44, Tryd.ntmps44
  go_wp2
  go_loopw [6] (fun si wr => ∃ k : Nat, k ≤ s.size ∧ si = .int .i64 k ∧ Hid (tkK s k = true) ∧ Hid (∃ d, wr = w.drewN d)) (fun si _ => s.size - (intOf si).toNat)
  case atStart => exact ⟨0, Nat.zero_le _, rfl, tkK_zero s, 0, rfl⟩
  case round =>
    obtain ⟨k, hk, rfl, hK, hd⟩ := hrel
    by_cases hlt : k < s.size
    · have i1 : (k : Int) < (s.size : Int) := by omega
      have l1 := bt_get hlt
      have B := Lib.hid (bt_lt s k)
      by_cases h1 : bt s k < 97
      · have E := Lib.hid (show isTk s = false by unfold isTk; rw [tkK_stop hlt (by unfold tkAt; rw [decide_eq_false (show ¬ 97 ≤ bt s k by omega)]; rfl)]; rfl)
        generalize bt s k = x at *
        have c1 : decide ((x : Int) < 97) = true := by simp; omega
        clear h1
        go_wp2_with fail
        go_quiet (fail)
        go_wp2_with fail
        go_ret
        rw [E.out]
        exact ⟨rfl, drewN_more hd.out _⟩
      by_cases h2 : 105 ≤ bt s k
      · have E := Lib.hid (show isTk s = false by unfold isTk; rw [tkK_stop hlt (by unfold tkAt; rw [decide_eq_false (show ¬ bt s k ≤ 104 by omega)]; simp)]; rfl)
        generalize bt s k = x at *
        have c1 : decide ((x : Int) < 97) = false := by simp; omega
        have c2 : decide ((105 : Int) ≤ (x : Int)) = true := by simp; omega
        clear h1 h2
        go_wp2_with fail
        go_quiet (fail)
        go_wp2_with fail
        go_ret
        rw [E.out]
        exact ⟨rfl, drewN_more hd.out _⟩
      by_cases h3 : k = 0
      · have K1 := Lib.hid (show tkK s (k + 1) = true by rw [tkK_succ, hK.out]; unfold tkAt; rw [decide_eq_true (show 97 ≤ bt s k by omega), decide_eq_true (show bt s k ≤ 104 by omega), decide_eq_true h3]; rfl)
        subst h3
        have k0 : decide ((0 : Int) < ((0 : Nat) : Int)) = false := by decide
        generalize bt s 0 = x at *
        have c1 : decide ((x : Int) < 97) = false := by simp; omega
        have c2 : decide ((105 : Int) ≤ (x : Int)) = false := by simp; omega
        clear h1 h2
        go_wp2_with fail
        go_quiet (fail)
        go_wp2_with fail
        go_roundw
        case rel => exact ⟨0 + 1, hlt, by go_num, K1, drewN_more hd.out _⟩
        case measure => simp [intOf]; omega
      · obtain ⟨j, hj⟩ : ∃ j, k = j + 1 := ⟨k - 1, by omega⟩
        have hjl : j < s.size := by omega
        have l2 := bt_get hjl
        have q1 : (k : Int) - 1 = (j : Int) := by omega
        have q2 : IntKind.i64.wrap ((k : Int) - 1) = (j : Int) := by rw [q1]; exact IntWalk.i64_in _ (by omega)
        have k0n : 0 < k := by omega
        by_cases h4 : bt s k < bt s j
        · have E := Lib.hid (show isTk s = false by
            unfold isTk
            rw [tkK_stop hlt (by unfold tkAt; rw [decide_eq_false h3, show k - 1 = j by omega, decide_eq_false (show ¬ bt s j ≤ bt s k by omega)]; simp)]
            rfl)
          clear hj
          generalize bt s k = x at *
          generalize bt s j = y at *
          have c1 : decide ((x : Int) < 97) = false := by simp; omega
          have c2 : decide ((105 : Int) ≤ (x : Int)) = false := by simp; omega
          clear h1 h2
          go_wp2_with fail
          go_quiet (fail)
          go_wp2_with fail
          go_ret
          rw [E.out]
          exact ⟨rfl, drewN_more hd.out _⟩
        · have K1 := Lib.hid (show tkK s (k + 1) = true by rw [tkK_succ, hK.out]; unfold tkAt; rw [decide_eq_true (show 97 ≤ bt s k by omega), decide_eq_true (show bt s k ≤ 104 by omega), show k - 1 = j by omega, decide_eq_true (show bt s j ≤ bt s k by omega)]; simp)
          clear hj
          generalize bt s k = x at *
          generalize bt s j = y at *
          have c1 : decide ((x : Int) < 97) = false := by simp; omega
          have c2 : decide ((105 : Int) ≤ (x : Int)) = false := by simp; omega
          clear h1 h2
          go_wp2_with fail
          go_quiet (fail)
          go_wp2_with fail
          go_roundw
          case rel => exact ⟨k + 1, hlt, by go_num, K1, drewN_more hd.out _⟩
          case measure => simp [intOf]; omega
    · obtain rfl : k = s.size := by omega
      have i1 : ¬ (s.size : Int) < (s.size : Int) := by omega
      have E := Lib.hid (show isTk s = decide ((s.size : Int) ≤ 12) by unfold isTk; rw [hK.out, Bool.true_and]; congr 1; apply propext; omega)
      go_wp2_with fail
      go_ret
      rw [E.out]
      exact ⟨rfl, hd.out⟩

/-- Bytes in ascending order, from the end. -/
def srtB (s : ByteArray) : Bool := (List.range (s.size - 1)).all fun i => decide (bt s i ≤ bt s (i + 1))
set_option maxHeartbeats 4000000 in
theorem IsSorted_any (s : ByteArray) (b cp : Nat) (hs : s.size ≤ 9223372036854775807) (w : World) (hc : ∀ j, j < s.size → w.cell? ⟨b, j, none⟩ = some (.int .u8 (bt s j : Nat))) :
    Calls Tryd.prog 68 #[.slice (some ⟨b, 0, none⟩) s.size cp] w (RetQ (srtB s) w) := by
  have HC := Lib.hid hc
  have w1 : IntKind.i64.wrap ((s.size : Int) - 1) = (s.size : Int) - 1 := IntWalk.i64_in _ (by omega)
  clear hc
  go_enter Tryd.func68, Tryd.ntmps68
  go_wp2
  go_loopw [3] (fun si wr => ∃ k : Nat, (k ≤ s.size - 1 ∧ (si = .int .i64 k ∨ (s.size = 0 ∧ si = .int .i64 (-1)))) ∧ Hid (∀ i, k ≤ i → i < s.size - 1 → bt s i ≤ bt s (i + 1)) ∧ Hid (∃ d, wr = w.drewN d)) (fun si _ => (intOf si).toNat)
  case atStart =>
    refine ⟨s.size - 1, ⟨Nat.le_refl _, ?_⟩, Lib.hid (fun i h1 h2 => by omega), Lib.hid ⟨0, rfl⟩⟩
    by_cases h : s.size = 0
    · right; exact ⟨h, by rw [h]; rfl⟩
    · left; exact congrArg (Value.int .i64) (by omega)
  case round =>
    obtain ⟨k, ⟨hk, hv⟩, hK, hd⟩ := hrel
    rcases hv with rfl | ⟨h0, rfl⟩
    · by_cases h1 : k = 0
      · subst h1
        have E := Lib.hid (show srtB s = true by unfold srtB; rw [List.all_eq_true]; intro i hi; simpa using hK.out i (Nat.zero_le _) (by simpa using hi))
        go_wp2_with fail
        go_ret
        rw [E.out]
        exact ⟨rfl, hd.out⟩
      · obtain ⟨j, hj⟩ : ∃ j, k = j + 1 := ⟨k - 1, by omega⟩
        have ck := HC.out k (by omega)
        have cj := HC.out j (by omega)
        have q1 : (k : Int) - 1 = (j : Int) := by omega
        have q2 : IntKind.i64.wrap ((k : Int) - 1) = (j : Int) := by rw [q1]; exact IntWalk.i64_in _ (by omega)
        have k0 : (0 : Int) < (k : Int) := by omega
        have k1 : (k : Int) < (s.size : Int) := by omega
        have k2 : (j : Int) < (s.size : Int) := by omega
        have cj' : wr.cell? ⟨b, j, none⟩ = some (.int .u8 (bt s j : Nat)) := by obtain ⟨d, rfl⟩ := hd.out; exact cj
        have ck' : wr.cell? ⟨b, k, none⟩ = some (.int .u8 (bt s k : Nat)) := by obtain ⟨d, rfl⟩ := hd.out; exact ck
        have C := Lib.hid (fun w1 => Less8_any ((bt s k : Nat) : Int) ((bt s j : Nat) : Int) w1)
        clear ck cj
        by_cases h4 : bt s k < bt s j
        · have E := Lib.hid (show srtB s = false by
            unfold srtB
            rw [List.all_eq_false]
            exact ⟨j, by simp; omega, by rw [← hj]; simp; omega⟩)
          have c3 : decide (((bt s k : Nat) : Int) < ((bt s j : Nat) : Int)) = true := by simpa using h4
          rw [c3] at C
          clear c3 h4 hj
          generalize bt s k = x at *
          generalize bt s j = y at *
          go_wp2_with fail
          go_quiet ((go_at_call 93; with_reducible exact Calls.quiet_of_same (C.out _)))
          go_wp2_with fail
          go_ret
          rw [E.out]
          exact ⟨rfl, drewN_more hd.out _⟩
        · have K1 := Lib.hid (show ∀ i, j ≤ i → i < s.size - 1 → bt s i ≤ bt s (i + 1) from fun i h1 h2 => by
            by_cases e : i = j
            · subst e; rw [← hj]; omega
            · exact hK.out i (by omega) h2)
          have c3 : decide (((bt s k : Nat) : Int) < ((bt s j : Nat) : Int)) = false := by simp; omega
          have jk : j ≤ s.size - 1 := by omega
          have jl : j < k := by omega
          rw [c3] at C
          clear c3 h4 hj
          generalize bt s k = x at *
          generalize bt s j = y at *
          go_wp2_with fail
          go_quiet ((go_at_call 93; with_reducible exact Calls.quiet_of_same (C.out _)))
          go_wp2_with fail
          go_roundw
          case rel => exact ⟨j, ⟨jk, .inl rfl⟩, K1, drewN_more hd.out _⟩
          case measure => simp [intOf]; omega
    · have E := Lib.hid (show srtB s = true by unfold srtB; rw [h0]; rfl)
      go_wp2_with fail
      go_ret
      rw [E.out]
      exact ⟨rfl, hd.out⟩

/-- What the program asks of tokens is what the reference asks. -/
def tokB : ByteArray := ⟨#[97, 98, 99, 100, 101, 102, 103, 104]⟩
theorem tok_has (b : UInt8) : tokB.data.toList.contains b = (decide (97 ≤ b.toNat) && decide (b.toNat ≤ 104)) := by
  rw [Bool.eq_iff_iff]
  simp only [tokB, List.contains_iff_mem, List.mem_cons, List.not_mem_nil, or_false, Bool.and_eq_true, decide_eq_true_eq]
  constructor
  · rintro (rfl | rfl | rfl | rfl | rfl | rfl | rfl | rfl) <;> decide
  · rintro ⟨h1, h2⟩
    have : b.toNat = 97 ∨ b.toNat = 98 ∨ b.toNat = 99 ∨ b.toNat = 100 ∨ b.toNat = 101 ∨ b.toNat = 102 ∨ b.toNat = 103 ∨ b.toNat = 104 := by omega
    have e : ∀ c : UInt8, b.toNat = c.toNat → b = c := fun c h => UInt8.toNat_inj.1 h
    rcases this with h | h | h | h | h | h | h | h
    · exact .inl (e 97 h)
    · exact .inr (.inl (e 98 h))
    · exact .inr (.inr (.inl (e 99 h)))
    · exact .inr (.inr (.inr (.inl (e 100 h))))
    · exact .inr (.inr (.inr (.inr (.inl (e 101 h)))))
    · exact .inr (.inr (.inr (.inr (.inr (.inl (e 102 h))))))
    · exact .inr (.inr (.inr (.inr (.inr (.inr (.inl (e 103 h)))))))
    · exact .inr (.inr (.inr (.inr (.inr (.inr (.inr (e 104 h)))))))
theorem trim_all (l cs : List UInt8) : Lib.trimS l cs = [] ↔ ∀ b ∈ l, cs.contains b = true := by
  unfold Lib.trimS Lib.trimLeftS Lib.trimRightS
  constructor
  · intro h b hb
    by_cases hc : cs.contains b = true
    · exact hc
    · exfalso
      have key : ∀ l : List UInt8, b ∈ l → b ∈ l.dropWhile (fun x => cs.contains x) := by
        intro l
        induction l with
        | nil => intro h; cases h
        | cons x l ih =>
          intro h
          rw [List.dropWhile_cons]
          split
          · rename_i hx
            rcases List.mem_cons.1 h with e | h
            · subst e; exact absurd hx hc
            · exact ih h
          · exact h
      have h1 := key _ (List.mem_reverse.2 (key _ (List.mem_reverse.2 hb)))
      rw [h] at h1
      cases h1
  · intro h
    have key : ∀ l : List UInt8, (∀ b ∈ l, cs.contains b = true) → l.dropWhile (fun x => cs.contains x) = [] := by
      intro l
      induction l with
      | nil => intro _; rfl
      | cons x l ih =>
        intro h
        rw [List.dropWhile_cons, if_pos (h x (List.mem_cons_self))]
        exact ih fun b hb => h b (List.mem_cons_of_mem _ hb)
    rw [key l.reverse (fun b hb => h b (List.mem_reverse.1 hb))]
    rfl

end Go.Proofs.YtehdemcfeoiecaaDoor
