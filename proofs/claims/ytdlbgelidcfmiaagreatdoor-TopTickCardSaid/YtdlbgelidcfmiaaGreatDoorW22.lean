/- Contracts of chapter 1: the comparison of ratios. -/
import Derived.Test.YtdlbgelidcfmiaaGreatDoorW21
import Derived.Shelf.Bits.Mul64
namespace Go.Proofs.YtdlbgelidcfmiaaGreatDoor
open Go.RowKit Go.Firn

set_option maxHeartbeats 1000000 in
theorem Mul64_any (x y : Nat) (hx : x < 18446744073709551616) (hy : y < 18446744073709551616) (w : World) :
    Calls Tryz.prog 60 #[.int .u64 x, .int .u64 y] w fun e w' => e = .returned (.tuple #[.int .u64 ((x * y / 18446744073709551616 : Nat) : Int), .int .u64 ((x * y % 18446744073709551616 : Nat) : Int)]) ∧ w' = w := by
  obtain ⟨bd, bt, bw, hhi⟩ := Lib.mul64_hi x y hx hy
  have ba := Lib.half_mul_le (a := x / 4294967296) (b := y / 4294967296) (by omega) (by omega)
  have bb := Lib.half_mul_le (a := x / 4294967296) (b := y % 4294967296) (by omega) (by omega)
  have bc := Lib.half_mul_le (a := x % 4294967296) (b := y / 4294967296) (by omega) (by omega)
  have ba' : x / 4294967296 * (y / 4294967296) < 18446744073709551616 := by omega
  have bb' : x / 4294967296 * (y % 4294967296) < 18446744073709551616 := by omega
  have bc' : x % 4294967296 * (y / 4294967296) < 18446744073709551616 := by omega
  have bh1 : x / 4294967296 * (y / 4294967296) + (x / 4294967296 * (y % 4294967296) + x % 4294967296 * (y % 4294967296) / 4294967296) / 4294967296 < 18446744073709551616 := by omega
  have bh : x / 4294967296 * (y / 4294967296) + (x / 4294967296 * (y % 4294967296) + x % 4294967296 * (y % 4294967296) / 4294967296) / 4294967296 + ((x / 4294967296 * (y % 4294967296) + x % 4294967296 * (y % 4294967296) / 4294967296) % 4294967296 + x % 4294967296 * (y / 4294967296)) / 4294967296 < 18446744073709551616 := by omega
  go_enter Tryz.func60, Tryz.ntmps60
  go_wp2
  simp only [Mul64.maskN x hx, Mul64.maskN y hy, Mul64.divN, Mul64.mulN, Mul64.addN, Mul64.wrapN _ bd, Mul64.wrapN _ bb', Mul64.wrapN _ bt, Mul64.maskN _ bt, Mul64.wrapN _ bc', Mul64.wrapN _ bw, Mul64.wrapN _ ba', Mul64.wrapN _ bh1, Mul64.wrapN _ bh, Mul64.wrapM (x * y)]
  rw [hhi]
  go_ret2
  exact ⟨rfl, rfl⟩

theorem isNaN_any (x : Int) (w : World) : Calls Tryz.prog 90 #[.int .u64 x] w fun e w' => e = .returned (.bool false) ∧ w' = w := by
  go_enter Tryz.func90, Tryz.ntmps90
  go_wp2
  go_ret
  exact ⟨rfl, rfl⟩

/-- The sign of a comparison. -/
def cmpI (x y : Int) : Int := if x < y then -1 else if y < x then 1 else 0
theorem Compare_any (x y : Int) (w : World) : Calls Tryz.prog 62 #[.int .u64 x, .int .u64 y] w fun e w' => e = .returned (.int .i64 (cmpI x y)) ∧ w' = w := by
  rcases Int.lt_trichotomy x y with h | h | h
  · have e : cmpI x y = -1 := by simp [cmpI, h]
    rw [e]
    have d1 : decide (x < y) = true := by simp; omega
    go_enter Tryz.func62, Tryz.ntmps62
    go_wp2_with (go_at_call 90; refine (isNaN_any _ _).mono ?_; rintro e w1 ⟨rfl, rfl⟩)
    go_ret
    exact ⟨rfl, rfl⟩
  · have e : cmpI x y = 0 := by simp [cmpI, h]
    rw [e]
    have d1 : decide (x < y) = false := by simp; omega
    have d2 : decide (y < x) = false := by simp; omega
    clear h
    go_enter Tryz.func62, Tryz.ntmps62
    go_wp2_with (go_at_call 90; refine (isNaN_any _ _).mono ?_; rintro e w1 ⟨rfl, rfl⟩)
    go_ret
    exact ⟨rfl, rfl⟩
  · have e : cmpI x y = 1 := by simp [cmpI, h]; omega
    rw [e]
    have d1 : decide (x < y) = false := by simp; omega
    have d2 : decide (y < x) = true := by simp; omega
    clear h
    go_enter Tryz.func62, Tryz.ntmps62
    go_wp2_with (go_at_call 90; refine (isNaN_any _ _).mono ?_; rintro e w1 ⟨rfl, rfl⟩)
    go_ret
    exact ⟨rfl, rfl⟩

theorem Mul64_int (x y : Int) (hx : 0 ≤ x) (hx' : x < 18446744073709551616) (hy : 0 ≤ y) (hy' : y < 18446744073709551616) (w : World) :
    Calls Tryz.prog 60 #[.int .u64 x, .int .u64 y] w fun e w' => e = .returned (.tuple #[.int .u64 (x * y / 18446744073709551616), .int .u64 (x * y % 18446744073709551616)]) ∧ w' = w := by
  obtain ⟨a, rfl⟩ : ∃ a : Nat, x = (a : Int) := ⟨x.toNat, by omega⟩
  obtain ⟨b, rfl⟩ : ∃ b : Nat, y = (b : Int) := ⟨y.toNat, by omega⟩
  have h := Mul64_any a b (by omega) (by omega) w
  rw [Int.natCast_ediv, Int.natCast_emod, Int.natCast_mul] at h
  exact h

/-- The first one that is not 0. -/
def orI (x y : Int) : Int := if x = 0 then y else x
theorem cmp_or (a b : Int) : orI (cmpI (a / 18446744073709551616) (b / 18446744073709551616)) (cmpI (a % 18446744073709551616) (b % 18446744073709551616)) = cmpI a b := by
  have h1 : 18446744073709551616 * (a / 18446744073709551616) + a % 18446744073709551616 = a := by omega
  have h2 : 18446744073709551616 * (b / 18446744073709551616) + b % 18446744073709551616 = b := by omega
  have m1 := Int.emod_nonneg a (show (18446744073709551616 : Int) ≠ 0 by decide)
  have m2 := Int.emod_nonneg b (show (18446744073709551616 : Int) ≠ 0 by decide)
  have m3 := Int.emod_lt_of_pos a (show (0 : Int) < 18446744073709551616 by decide)
  have m4 := Int.emod_lt_of_pos b (show (0 : Int) < 18446744073709551616 by decide)
  generalize a / 18446744073709551616 = p at *
  generalize b / 18446744073709551616 = q at *
  generalize a % 18446744073709551616 = r at *
  generalize b % 18446744073709551616 = s at *
  subst h1 h2
  unfold orI cmpI
  repeat' split
  all_goals omega

set_option maxRecDepth 100000 in
theorem Or_any (b c : Nat) (x y : Int) (w : World) (h0 : w.cell? ⟨b, 0, none⟩ = some (.int .i64 x)) (h1 : w.cell? ⟨b, 1, none⟩ = some (.int .i64 y)) :
    Calls Tryz.prog 61 #[.slice (some ⟨b, 0, none⟩) 2 c] w (RetDI (orI x y) w) := by
  go_enter Tryz.func61, Tryz.ntmps61
  go_wp2_with fail
  go_loopw [5, 8] (fun _ i wr => ∃ k : Nat, i = .int .i64 k ∧ (k = 0 ∨ (k = 1 ∧ x = 0) ∨ (k = 2 ∧ x = 0 ∧ y = 0)) ∧ ∃ m, wr = w.drewN m) (fun _ i _ => 2 - (intOf i).toNat)
  case atStart => exact ⟨0, rfl, .inl rfl, 0, rfl⟩
  case round =>
    obtain ⟨k, rfl, hk, hm⟩ := hrel
    have Hm := Lib.hid hm
    have c0 : wr.cell? ⟨b, 0, none⟩ = some (.int .i64 x) := by obtain ⟨m, rfl⟩ := hm; exact h0
    have c1 : wr.cell? ⟨b, 1, none⟩ = some (.int .i64 y) := by obtain ⟨m, rfl⟩ := hm; exact h1
    clear hm h0 h1
    rcases hk with rfl | ⟨rfl, hx⟩ | ⟨rfl, hx, hy⟩
    · by_cases hx : x = 0
      · have e : (x != 0) = false := by simp [hx]
        have Hx := Lib.hid hx
        clear hx
        go_wp2_with fail
        go_roundw
        case rel => exact ⟨1, by go_num, .inr (.inl ⟨rfl, Hx.out⟩), Hm.out⟩
        case measure => simp [intOf]
      · have e : (x != 0) = true := by simp [hx]
        have E := Lib.hid (show orI x y = x by simp [orI, hx])
        go_wp2_with fail
        go_ret
        rw [E.out]; exact ⟨rfl, Hm.out⟩
    · by_cases hy : y = 0
      · have e : (y != 0) = false := by simp [hy]
        have Hx := Lib.hid (And.intro hx hy)
        clear hx hy
        go_wp2_with fail
        go_roundw
        case rel => exact ⟨2, by go_num, .inr (.inr ⟨rfl, Hx.out⟩), Hm.out⟩
        case measure => simp [intOf]
      · have E := Lib.hid (show orI x y = y by simp [orI, hx])
        have e : (y != 0) = true := by simp [hy]
        clear hx
        go_wp2_with fail
        go_ret
        rw [E.out]; exact ⟨rfl, Hm.out⟩
    · have E := Lib.hid (show orI x y = 0 by simp [orI, hx, hy])
      clear hx hy
      go_wp2_with fail
      go_ret
      rw [E.out]; exact ⟨rfl, Hm.out⟩

set_option maxRecDepth 100000 in
set_option maxHeartbeats 1000000 in
theorem compare_any (N D N' D' : Int) (w : World) (h1 : 0 ≤ N ∧ N ≤ 9223372036854775807) (h2 : 0 ≤ D ∧ D ≤ 9223372036854775807) (h3 : 0 ≤ N' ∧ N' ≤ 9223372036854775807) (h4 : 0 ≤ D' ∧ D' ≤ 9223372036854775807) :
    Calls Tryz.prog 46 #[.agg #[.int .i64 N, .int .i64 D], .agg #[.int .i64 N', .int .i64 D']] w fun e w' => e = .returned (.int .i64 (cmpI (N * D') (N' * D))) ∧ Gr w w' := by
  have u1 : IntKind.u64.wrap N = N := by rw [IntKind.wrap_u64]; omega
  have u2 : IntKind.u64.wrap D = D := by rw [IntKind.wrap_u64]; omega
  have u3 : IntKind.u64.wrap N' = N' := by rw [IntKind.wrap_u64]; omega
  have u4 : IntKind.u64.wrap D' = D' := by rw [IntKind.wrap_u64]; omega
  have M1 := Lib.hid (fun w1 => Mul64_int N D' h1.1 (by omega) h4.1 (by omega) w1)
  have M2 := Lib.hid (fun w1 => Mul64_int N' D h3.1 (by omega) h2.1 (by omega) w1)
  have E := Lib.hid (cmp_or (N * D') (N' * D))
  generalize cmpI (N * D') (N' * D) = r at *
  generalize N * D' / 18446744073709551616 = p1 at *
  generalize N * D' % 18446744073709551616 = p2 at *
  generalize N' * D / 18446744073709551616 = q1 at *
  generalize N' * D % 18446744073709551616 = q2 at *
  clear h1 h2 h3 h4
  go_enter Tryz.func46, Tryz.ntmps46
  go_wp2_with fail
  refine (M1.out _).mono ?_
  rintro e w1 ⟨rfl, rfl⟩
  go_wp2_with fail
  refine (M2.out _).mono ?_
  rintro e w1 ⟨rfl, rfl⟩
  go_wp2_with fail
  refine (Compare_any _ _ _).mono ?_
  rintro e w1 ⟨rfl, rfl⟩
  go_wp2_with fail
  refine (Compare_any _ _ _).mono ?_
  rintro e w1 ⟨rfl, rfl⟩
  go_wp2_with fail
  have c0 := cell_new2' ((w.alloc (.cells #[.int .i64 N, .int .i64 D] 37)).alloc (.cells #[.int .i64 N', .int .i64 D'] 37)) (cmpI p1 q1) (cmpI p2 q2) 3 (b := w.heap.size + 1 + 1) (by simp)
  have G := ((((Gr.refl w).alloc (.cells #[.int .i64 N, .int .i64 D] 37)).alloc (.cells #[.int .i64 N', .int .i64 D'] 37)).alloc (.cells #[.int .i64 (cmpI p1 q1), .int .i64 (cmpI p2 q2)] 3))
  generalize (((w.alloc (.cells #[.int .i64 N, .int .i64 D] 37)).alloc (.cells #[.int .i64 N', .int .i64 D'] 37)).alloc (.cells #[.int .i64 (cmpI p1 q1), .int .i64 (cmpI p2 q2)] 3)) = wz at *
  refine (Or_any _ _ _ _ _ c0.1 c0.2).mono ?_
  rintro e w1 ⟨rfl, m, rfl⟩
  rw [E.out]
  go_wp2_with fail
  go_ret
  exact ⟨rfl, G.drewN m⟩

end Go.Proofs.YtdlbgelidcfmiaaGreatDoor
