/- Contracts of chapter 5: the cost of a line, of the program; both sums, of the reference. -/
import Derived.Test.YtbhndfnfohoidaaWA
import Derived.Test.YtbhndfnfohoidaaQB
namespace Go.Proofs.Ytbhndfnfohoidaa
open Go.RowKit Go.Firn

/-- The sum of the sizes of the first rests, and the greatest. -/
def sumA (X Y : Nat → Int) (A B D : Int) : Nat → Int
  | 0 => 0
  | k + 1 => sumA X Y A B D k + ab (rs (X k) (Y k) A B D)
def maxA (X Y : Nat → Int) (A B D : Int) : Nat → Int
  | 0 => 0
  | k + 1 => max (maxA X Y A B D k) (ab (rs (X k) (Y k) A B D))
theorem absz {x : Int} (h : -210000000 ≤ x ∧ x ≤ 210000000) : 0 ≤ ab x ∧ ab x ≤ 210000000 := by have := ab_cases x; omega
theorem sumA_bd {n : Nat} {X Y : Nat → Int} {A B D : Int} (ok : ∀ i, i < n → InP (X i) (Y i)) (h : InL A B D) : ∀ {k : Nat}, k ≤ n → 0 ≤ sumA X Y A B D k ∧ sumA X Y A B D k ≤ k * 210000000 := by
  intro k
  induction k with
  | zero => intro _; exact ⟨Int.le_refl _, by simp [sumA]⟩
  | succ k ih =>
    intro hk
    have i := ih (by omega)
    have r := absz (rs_bd (ok k (by omega)) h).2.2
    rw [sumA]
    push_cast
    omega
theorem maxA_bd {n : Nat} {X Y : Nat → Int} {A B D : Int} (ok : ∀ i, i < n → InP (X i) (Y i)) (h : InL A B D) : ∀ {k : Nat}, k ≤ n → 0 ≤ maxA X Y A B D k ∧ maxA X Y A B D k ≤ 210000000 := by
  intro k
  induction k with
  | zero => intro _; exact ⟨Int.le_refl _, by simp [maxA]⟩
  | succ k ih =>
    intro hk
    have i := ih (by omega)
    have r := absz (rs_bd (ok k (by omega)) h).2.2
    rw [maxA]
    omega

set_option maxHeartbeats 1000000 in
theorem cost_any (a : Option Addr) (n c : Nat) (X Y : Nat → Int) (A B D : Int) (w : World) (hn : n ≤ 12) (hr : RdM w a n X Y) (ok : ∀ i, i < n → InP (X i) (Y i)) (hl : InL A B D) :
    Calls Try.prog 59 #[.slice a n c, .agg #[.int .i64 A, .int .i64 B, .int .i64 D]] w (RetR (rN (sumA X Y A B D n) D) (rD (sumA X Y A B D n) D) w) := by
  have HR := Lib.hid hr
  have OK := Lib.hid ok
  have HL := Lib.hid hl
  have D1 := hl.2.2.1
  have D2 := hl.2.2.2
  clear hr ok hl
  obtain ⟨W0, hW0⟩ : ∃ W0, ((w.alloc (.cells #[.int .i64 A, .int .i64 B, .int .i64 D] 37)).alloc (.cells #[.int .i64 0, .int .i64 0] 27)) = W0 := ⟨_, rfl⟩
  have G0 := Lib.hid (show Gr w W0 by rw [← hW0]; exact ((Gr.refl w).alloc _).alloc _)
  have B3 := Lib.hid (show Box3 W0 w.heap.size A B D by rw [← hW0]; exact (Box3.new rfl).gr ((Gr.refl _).alloc _))
  have B4 := Lib.hid (show Box2 W0 (w.heap.size + 1) 0 0 by rw [← hW0]; exact Box2.new (by simp))
  go_enter Try.func59, Try.ntmps59
  go_wp2_with fail
  clear hW0
  go_loopw [5, 10] (fun ss sk wr => ∃ k : Nat, k ≤ n ∧ sk = .int .i64 k ∧ ss = .int .i64 (sumA X Y A B D k) ∧ Gr W0 wr) (fun _ sk _ => n - (intOf sk).toNat)
  case atStart => exact ⟨0, Nat.zero_le _, rfl, rfl, Gr.refl _⟩
  case round =>
    obtain ⟨k, hk, rfl, rfl, hg⟩ := hrel
    have BS := sumA_bd OK.out HL.out hk
    obtain ⟨l0, l1, l2, f0, f1, f2⟩ := B3.out.gr hg
    have lw : w.heap.size < wr.heap.size := World.block_lt_of_cell? wr _ l0
    by_cases hlt : k < n
    · obtain ⟨b, o, ea, hc⟩ := (HR.out.gr (G0.out.trans hg)).at hlt
      subst ea
      obtain ⟨c1, c2⟩ := hc k hlt
      have i1 : (k : Int) < n := by omega
      have RB := (rs_bd (OK.out k hlt) HL.out).2.2
      have AB := absz RB
      have C := Lib.hid (fun w' => rest_any (X k) (Y k) A B D w' (OK.out k hlt) HL.out)
      have CA := Lib.hid (fun w' => abs_any (rs (X k) (Y k) A B D) w' (by unfold Sz; omega))
      have S := Lib.hid (show sumA X Y A B D (k + 1) = sumA X Y A B D k + ab (rs (X k) (Y k) A B D) from rfl)
      generalize sumA X Y A B D k = s at *
      generalize rs (X k) (Y k) A B D = r at *
      generalize ab r = t at *
      have q : wrap64 (s + t) = s + t := IntWalk.wrap64_in _ (by omega)
      clear hc BS RB AB
      go_wp2_with (first
        | (go_at_call 67; (with_reducible refine (C.out _).mono ?_); rintro e w1 ⟨rfl, g1⟩)
        | (go_at_call 75; (with_reducible refine (CA.out _).mono ?_); rintro e w2 ⟨rfl, rfl⟩))
      go_roundw
      case rel => exact ⟨k + 1, by omega, by go_num, by rw [S.out, q], (hg.alloc _).trans g1⟩
      case measure => simp [intOf]; omega
    · obtain rfl : k = n := by omega
      have CR := Lib.hid (fun w' => ratio_any (sumA X Y A B D k) D w' (by unfold Sz; omega) (by unfold Sz; omega) (by omega))
      obtain ⟨p0, p1, p2, p3⟩ := B4.out.gr hg
      generalize sumA X Y A B D k = s at *
      clear BS
      go_wp2_with (go_at_call 66; (with_reducible refine (CR.out _).mono ?_); rintro e w1 ⟨rfl, g1⟩; obtain ⟨q0, q1, q2, q3⟩ := (show Box2 wr (w.heap.size + 1) 0 0 from ⟨p0, p1, p2, p3⟩).gr g1)
      obtain ⟨z0, z1, _, _⟩ := (show Box2 w1 (w.heap.size + 1) 0 0 from ⟨q0, q1, q2, q3⟩).put (x' := rN s D) (y' := rD s D)
      refine bodyPost_ret (v := .agg #[.int .i64 (rN s D), .int .i64 (rD s D)]) (by simp [results, Try.results59, go_sem, z0, z1]) rfl ⟨rfl, ?_⟩
      exact (((G0.out.trans hg).trans g1).setCell (by simp) _).setCell (by simp) _

set_option maxHeartbeats 1000000 in
theorem sums_any (a : Option Addr) (n c : Nat) (X Y : Nat → Int) (A B D : Int) (w : World) (hn : n ≤ 12) (hr : RdM w a n X Y) (ok : ∀ i, i < n → InP (X i) (Y i)) (hl : InL A B D) :
    Calls Try.prog 62 #[.slice a n c, .agg #[.int .i64 A, .int .i64 B, .int .i64 D]] w (fun e w' => e = .returned (.tuple #[.int .i64 (sumA X Y A B D n), .int .i64 (maxA X Y A B D n)]) ∧ Gr w w') := by
  have HR := Lib.hid hr
  have OK := Lib.hid ok
  have HL := Lib.hid hl
  clear hr ok hl
  obtain ⟨W0, hW0⟩ : ∃ W0, (w.alloc (.cells #[.int .i64 A, .int .i64 B, .int .i64 D] 37)) = W0 := ⟨_, rfl⟩
  have G0 := Lib.hid (show Gr w W0 by rw [← hW0]; exact (Gr.refl w).alloc _)
  have B3 := Lib.hid (show Box3 W0 w.heap.size A B D by rw [← hW0]; exact Box3.new rfl)
  go_enter Try.func62, Try.ntmps62
  go_wp2_with fail
  clear hW0
  go_loopw [4, 5, 10] (fun ss sm sk wr => ∃ k : Nat, k ≤ n ∧ sk = .int .i64 k ∧ ss = .int .i64 (sumA X Y A B D k) ∧ sm = .int .i64 (maxA X Y A B D k) ∧ Gr W0 wr) (fun _ _ sk _ => n - (intOf sk).toNat)
  case atStart => exact ⟨0, Nat.zero_le _, rfl, rfl, rfl, Gr.refl _⟩
  case round =>
    obtain ⟨k, hk, rfl, rfl, rfl, hg⟩ := hrel
    have BS := sumA_bd OK.out HL.out hk
    have BM := maxA_bd OK.out HL.out hk
    obtain ⟨l0, l1, l2, f0, f1, f2⟩ := B3.out.gr hg
    have lw : w.heap.size < wr.heap.size := World.block_lt_of_cell? wr _ l0
    have B3' := Lib.hid (B3.out.gr hg)
    by_cases hlt : k < n
    · obtain ⟨b, o, ea, hc⟩ := (HR.out.gr (G0.out.trans hg)).at hlt
      subst ea
      obtain ⟨c1, c2⟩ := hc k hlt
      have i1 : (k : Int) < n := by omega
      have RB := (rs_bd (OK.out k hlt) HL.out).2.2
      have AB := absz RB
      have C := Lib.hid (fun w' => refrest_any (X k) (Y k) A B D w' (OK.out k hlt) HL.out)
      have CA := Lib.hid (fun w' => size_any (rs (X k) (Y k) A B D) w' (by unfold Sz; omega))
      have S := Lib.hid (show sumA X Y A B D (k + 1) = sumA X Y A B D k + ab (rs (X k) (Y k) A B D) from rfl)
      have M := Lib.hid (show maxA X Y A B D (k + 1) = max (maxA X Y A B D k) (ab (rs (X k) (Y k) A B D)) from rfl)
      generalize sumA X Y A B D k = s at *
      generalize maxA X Y A B D k = m at *
      generalize rs (X k) (Y k) A B D = r at *
      generalize ab r = t at *
      have q : wrap64 (s + t) = s + t := IntWalk.wrap64_in _ (by omega)
      clear hc BS RB AB BM
      go_wp2_with (first
        | (go_at_call 69; (with_reducible refine (C.out _).mono ?_); rintro e w1 ⟨rfl, g1⟩; first | (have x0 := (g1.fresh' (b := wr.heap.size) (j := 0) (v := .int .i64 (X k)) rfl rfl).1; have x1 := (g1.fresh' (b := wr.heap.size) (j := 1) (v := .int .i64 (Y k)) rfl rfl).1; have GG := Lib.hid ((hg.alloc _).trans g1); obtain ⟨u0, u1, u2, _, _, _⟩ := B3.out.gr GG.out) | have G2 := Lib.hid (GG.out.trans g1))
        | (go_at_call 88; (with_reducible refine (CA.out _).mono ?_); rintro e w2 ⟨rfl, rfl⟩))
      go_roundw
      case rel => exact ⟨k + 1, by omega, by go_num, by rw [S.out], by rw [M.out]; congr 1; split <;> omega, G2.out⟩
      case measure => simp [intOf]; omega
    · obtain rfl : k = n := by omega
      go_wp2_with fail
      exact bodyPost_ret (v := .tuple #[.int .i64 (sumA X Y A B D k), .int .i64 (maxA X Y A B D k)]) (by simp [results, Try.results62, go_sem]) rfl ⟨rfl, G0.out.trans hg⟩

end Go.Proofs.Ytbhndfnfohoidaa
