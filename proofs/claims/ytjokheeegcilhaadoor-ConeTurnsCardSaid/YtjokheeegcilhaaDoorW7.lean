/- Contracts of chapter 2: SameInts, and the list of a set told from above. -/
import Derived.Test.YtjokheeegcilhaaDoorW6
namespace Go.Proofs.YtjokheeegcilhaaDoor
open Go.RowKit Go.Firn

/-- Are the first n numbers of both lists the same? -/
def eqB (n m : Nat) (f g : Nat → Int) : Bool := decide (n = m) && (List.range n).all fun i => decide (f i = g i)
theorem eqB_true {n m : Nat} {f g : Nat → Int} : eqB n m f g = true ↔ n = m ∧ ∀ i, i < n → f i = g i := by simp [eqB]
theorem eqB_false_of {n m k : Nat} {f g : Nat → Int} (hk : k < n) (h : f k ≠ g k) : eqB n m f g = false := by
  cases e : eqB n m f g with
  | false => rfl
  | true => exact absurd ((eqB_true.1 e).2 k hk) h

theorem SameInts_q (a a' : Option Addr) (n c n' c' : Nat) (f g : Nat → Int) (w : World) (hn : n ≤ 9223372036854775807) (hn' : n' ≤ 9223372036854775807) (hr : RdI w a n f) (hr' : RdI w a' n' g) :
    Calls Tryd.prog 21 #[.slice a n c, .slice a' n' c'] w (RetQ (eqB n n' f g) w) := by
  by_cases hnn : n = n'
  rotate_left
  · have E := Lib.hid (show eqB n n' f g = false by simp [eqB, hnn])
    have hne : (n : Int) ≠ n' := by omega
    go_enter Tryd.func21, Tryd.ntmps21
    go_wp2
    go_ret
    rw [E.out]; exact ⟨rfl, 0, rfl⟩
  subst hnn
  go_enter Tryd.func21, Tryd.ntmps21
  go_wp2
  go_loopw [5] (fun i wr => ∃ k : Nat, k ≤ n ∧ i = .int .i64 k ∧ Hid (∀ i, i < k → f i = g i) ∧ ∃ m, wr = w.drewN m) (fun i _ => n - (intOf i).toNat)
  case atStart => exact ⟨0, by omega, rfl, fun i hi => by omega, 0, rfl⟩
  case round =>
    obtain ⟨k, hk, rfl, H1, hm⟩ := hrel
    have hg : Gr w wr := by obtain ⟨m, rfl⟩ := hm; exact (Gr.refl w).drewN m
    have Hm := Lib.hid hm
    clear hm
    by_cases hlt : k < n
    · obtain ⟨b, o, rfl, hc⟩ := hr.at hlt
      obtain ⟨b', o', rfl, hc'⟩ := hr'.at hlt
      have hck := hg.cell (hc k hlt)
      have hck' := hg.cell (hc' k hlt)
      clear hc hr hc' hr'
      have i3 : (0 : Int) ≤ (k : Int) := by omega
      have i4 : (k : Int) < n := by omega
      by_cases ht : f k = g k
      · have H1' : Hid (∀ i, i < k + 1 → f i = g i) := fun i hi => by
          by_cases e : i = k
          · subst e; exact ht
          · exact H1.out i (by omega)
        have t1 : (f k != g k) = false := by simp [ht]
        have Ht := Lib.hid ht
        clear ht
        go_wp2
        go_quiet (fail)
        go_wp2
        go_roundw
        case rel => exact ⟨k + 1, by omega, by go_num, H1', drewN_more Hm.out _⟩
        case measure => simp [intOf]; omega
      · have E := Lib.hid (show eqB n n f g = false from eqB_false_of hlt ht)
        have t1 : (f k != g k) = true := by simp [ht]
        go_wp2
        go_quiet (fail)
        go_wp2
        go_ret
        rw [E.out]; exact ⟨rfl, drewN_more Hm.out _⟩
    · have : k = n := by omega
      subst this
      have E := Lib.hid (show eqB k k f g = true from eqB_true.2 ⟨rfl, H1.out⟩)
      go_wp2_with fail
      go_ret
      rw [E.out]; exact ⟨rfl, Hm.out⟩

theorem SameInts_any (a a' : Option Addr) (n c n' c' : Nat) (f g : Nat → Int) (w : World) (hn : n ≤ 9223372036854775807) (hn' : n' ≤ 9223372036854775807) (hr : RdI w a n f) (hr' : RdI w a' n' g) :
    Calls Tryd.prog 21 #[.slice a n c, .slice a' n' c'] w (RetB (eqB n n' f g) w) :=
  (SameInts_q a a' n c n' c' f g w hn hn' hr hr').mono fun _ _ ⟨h, _, e⟩ => ⟨h, by rw [e]; exact (Gr.refl w).drewN _⟩


theorem els_split {p : Nat → Bool} {n k : Nat} (hk : k ≤ n) : ∃ r, els p n = els p k ++ r := by
  induction n with
  | zero => exact ⟨[], by have : k = 0 := by omega
                          subst this; simp⟩
  | succ n ih =>
    rcases Nat.lt_or_ge n k with h | h
    · have : k = n + 1 := by omega
      subst this
      exact ⟨[], by simp⟩
    · obtain ⟨r, hr⟩ := ih h
      exact ⟨r ++ (if p n then [n] else []), by rw [els_succ, hr, List.append_assoc]⟩
theorem els_at {p : Nat → Bool} {n k : Nat} (hk : k < n) (hp : p k = true) : (els p n).getD (els p k).length 0 = k := by
  obtain ⟨r, hr⟩ := els_split (p := p) (show k + 1 ≤ n by omega)
  rw [hr, els_succ, hp]
  simp [List.getD]
theorem els_len_le {p : Nat → Bool} {n k : Nat} (hk : k ≤ n) : (els p k).length ≤ (els p n).length := by
  obtain ⟨r, hr⟩ := els_split (p := p) hk
  rw [hr]; simp

theorem bit_test (s k : Nat) : (s / 2 ^ k) % 2 = if s.testBit k then 1 else 0 := by
  rw [Nat.testBit_eq_decide_div_mod_eq]
  have := Nat.mod_two_eq_zero_or_one (s / 2 ^ k)
  rcases this with h | h <;> simp [h]

theorem i64_ofInt (a : Nat) (ha : a < 9223372036854775808) : (BitVec.ofInt 64 (a : Int)).toNat = a := by
  rw [BitVec.ofInt_natCast, BitVec.toNat_ofNat]; exact Nat.mod_eq_of_lt (by omega)
theorem i64_and_nat (a b : Nat) (ha : a < 9223372036854775808) (hb : b < 9223372036854775808) : bits .and .i64 (a : Int) (b : Int) = ((a &&& b : Nat) : Int) := by
  have hx : a &&& b < 9223372036854775808 := Nat.lt_of_le_of_lt Nat.and_le_left ha
  show IntKind.i64.wrap ((BitVec.ofInt 64 (a : Int) &&& BitVec.ofInt 64 (b : Int)).toNat : Int) = _
  rw [BitVec.toNat_and, i64_ofInt a ha, i64_ofInt b hb]
  exact IntWalk.i64_in _ (by omega)
theorem i64_or_nat (a b : Nat) (ha : a < 4611686018427387904) (hb : b < 4611686018427387904) : bits .or .i64 (a : Int) (b : Int) = ((a ||| b : Nat) : Int) := by
  have hx : a ||| b < 2 ^ 62 := Nat.or_lt_two_pow (by omega) (by omega)
  show IntKind.i64.wrap ((BitVec.ofInt 64 (a : Int) ||| BitVec.ofInt 64 (b : Int)).toNat : Int) = _
  rw [BitVec.toNat_or, i64_ofInt a (by omega), i64_ofInt b (by omega)]
  exact IntWalk.i64_in _ (by omega)
theorem shr_bit {s : Nat} (k : Nat) (hs : s < 9223372036854775808) : bits .and .i64 ((s : Int) / (2 : Int) ^ k) 1 = if s.testBit k then 1 else 0 := by
  have h1 : s / 2 ^ k < 9223372036854775808 := Nat.lt_of_le_of_lt (Nat.div_le_self _ _) hs
  rw [ipow, ← Int.natCast_ediv, show (1 : Int) = ((1 : Nat) : Int) from rfl, i64_and_nat _ _ h1 (by omega), Nat.and_one_is_mod, bit_test]
  split <;> rfl

set_option maxRecDepth 20000 in
theorem reflist_any (n s : Nat) (w : World) (hn : n ≤ 14) (hs : s < 2 ^ n) :
    Calls Tryd.prog 61 #[.int .i64 n, .int .i64 s] w (RetL (els (fun i => s.testBit (n - 1 - i)) n) w) := by
  have p14 := pow14 hn
  go_enter Tryd.func61, Tryd.ntmps61
  go_wp2
  go_loopw [5, 6] (fun v i wr => ∃ k : Nat, k ≤ n ∧ i = .int .i64 k ∧ OwnI w 3 wr v (els (fun i => s.testBit (n - 1 - i)) k).length (nf (els (fun i => s.testBit (n - 1 - i)) n))) (fun _ i _ => n - (intOf i).toNat)
  case atStart => exact ⟨0, by omega, rfl, OwnI.nil w 3 _⟩
  case round =>
    obtain ⟨k, hk, rfl, hown⟩ := hrel
    by_cases hlt : k < n
    · have e1 : IntKind.i64.wrap ((n : Int) - 1 - (k : Int)) = ((n - 1 - k : Nat) : Int) := by rw [IntWalk.i64_in _ (by omega)]; omega
      have e2 : (n : Int) - 1 - (k : Int) = ((n - 1 - k : Nat) : Int) := by omega
      have e3 := shr_bit (s := s) (n - 1 - k) (by omega)
      by_cases hb : s.testBit (n - 1 - k) = true
      · rw [if_pos hb] at e3
        have E := Lib.hid (show nf (els (fun i => s.testBit (n - 1 - i)) n) (els (fun i => s.testBit (n - 1 - i)) k).length = (k : Int) by
          show (((els (fun i => s.testBit (n - 1 - i)) n).getD _ 0 : Nat) : Int) = _
          rw [els_at hlt hb])
        have S := Lib.hid (show (els (fun i => s.testBit (n - 1 - i)) (k + 1)).length = (els (fun i => s.testBit (n - 1 - i)) k).length + 1 by rw [els_succ]; simp [hb])
        have K := Lib.hid (show (els (fun i => s.testBit (n - 1 - i)) k).length < 1000000000 by have := cnt_le (fun i => s.testBit (n - 1 - i)) k; rw [els_length]; omega)
        clear hb
        go_wp2_with (at_builtin; go_must (refine wpList_app_int rfl _ _ 23 3 rfl Tryd.underlying23 Tryd.info3 _ _ _ rfl (hown.alloc _) _ _ rfl (cell_new1 _ _ _) E.out K.out ?_); intro v1 w1 hown1 _)
        go_roundw
        case rel => exact ⟨k + 1, by omega, by go_num, by rw [S.out]; exact hown1⟩
        case measure => simp [intOf]; omega
      · rw [if_neg hb] at e3
        have S := Lib.hid (show els (fun i => s.testBit (n - 1 - i)) (k + 1) = els (fun i => s.testBit (n - 1 - i)) k by rw [els_succ]; simp [hb])
        clear hb
        go_wp2_with fail
        go_roundw
        case rel => exact ⟨k + 1, by omega, by go_num, by rw [S.out]; exact hown⟩
        case measure => simp [intOf]; omega
    · obtain rfl : k = n := by omega
      go_wp2_with fail
      go_ret
      obtain ⟨a, c, rfl, h1, h2, h3⟩ := hown.rd
      exact ⟨a, c, rfl, h1, h2, h3, hown.2⟩

end Go.Proofs.YtjokheeegcilhaaDoor
