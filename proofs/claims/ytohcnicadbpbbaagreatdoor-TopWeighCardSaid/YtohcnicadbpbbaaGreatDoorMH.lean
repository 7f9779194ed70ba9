/- DERIVED: THE SHELF's CONTRACTS AT THIS DUMP, IN PLAIN WORDS (tools/lay-plain.mjs out of 'YtohcnicadbpbbaaGreatDoorShelf.lean', which tools/lay-shelf.mjs wrote): THE SAME DECLARATIONS UNDER THE SAME NAMES: 'import', 'namespace', 'open', 'def', 'theorem' AND NOTHING ELSE: no command of the shelf's: FOR A HAND-IN. Each laying: the table of numbers ('.._ren') and one theorem, a field a fact of the dump's own or the kernel's comparison; each contract: ONE APPLICATION. Contracts of chapter 7: the number of trailing zeros; which of two lists comes first. Plain law of chapter 7: the outcomes of a set, taken off one by one; the sets in order. Appends inside a fence; slices.SortFunc at the cuts of all sets. Contracts of chapter 7: the iterator over all cuts. Contracts of chapter 7: the best cut of those that are let. -/
import Derived.Shelf.SlSortCmp.Whole1
import Derived.Ground.SlsfProg
import Derived.Test.YtohcnicadbpbbaaGreatDoorProg
import Derived.Test.YtohcnicadbpbbaaGreatDoorMF
import Derived.Shelf.Spec.TrailingZeros
import Derived.Lib.TrailingZeros
import Derived.Test.YtohcnicadbpbbaaGreatDoorMG
import Derived.Maps.OwnIn
import Derived.Test.YtohcnicadbpbbaaGreatDoorMB
import Derived.Laws.Bits64b
namespace Go.Proofs
open Go.Shelf
def Tryz.sortF_ren : Go.Shelf.Ren := ⟨fun | 6 => 80 | 15 => 76 | 14 => 100 | 28 => 94 | 29 => 95 | 20 => 107 | 21 => 108 | 22 => 109 | 23 => 110 | 24 => 111 | 25 => 112 | 26 => 113 | 27 => 114 | 46 => 117 | 47 => 102 | 48 => 103 | 49 => 118 | 50 => 119 | 57 => 120 | n => n, fun | 22 => 92 | 24 => 22 | 25 => 69 | 3 => 3 | 39 => 90 | 0 => 0 | 53 => 105 | 55 => 107 | 4 => 4 | 46 => 97 | 45 => 96 | 50 => 102 | 5 => 5 | 9 => 9 | 66 => 111 | 70 => 115 | 76 => 124 | 77 => 125 | n => n, fun | n => n⟩
theorem Tryz.sortF : Go.Proofs.SlLaysF.n6 Tryz.prog Tryz.sortF_ren := {
  mixed := by kernel_rfl
  f6 := ⟨Tryz.f80.name, by decide, Tryz.func80.trans (congrArg some (by kernel_rfl))⟩
  f14 := ⟨Tryz.f100.name, by decide, Tryz.func100.trans (congrArg some (by kernel_rfl))⟩
  f15 := Tryz.func76.trans (congrArg some (by kernel_rfl))
  f20 := ⟨Tryz.f107.name, by decide, Tryz.func107.trans (congrArg some (by kernel_rfl))⟩
  f21 := ⟨Tryz.f108.name, by decide, Tryz.func108.trans (congrArg some (by kernel_rfl))⟩
  f22 := ⟨Tryz.f109.name, by decide, Tryz.func109.trans (congrArg some (by kernel_rfl))⟩
  f23 := ⟨Tryz.f110.name, by decide, Tryz.func110.trans (congrArg some (by kernel_rfl))⟩
  f24 := ⟨Tryz.f111.name, by decide, Tryz.func111.trans (congrArg some (by kernel_rfl))⟩
  f25 := ⟨Tryz.f112.name, by decide, Tryz.func112.trans (congrArg some (by kernel_rfl))⟩
  f26 := ⟨Tryz.f113.name, by decide, Tryz.func113.trans (congrArg some (by kernel_rfl))⟩
  f27 := ⟨Tryz.f114.name, by decide, Tryz.func114.trans (congrArg some (by kernel_rfl))⟩
  f28 := Tryz.func94.trans (congrArg some (by kernel_rfl))
  f29 := Tryz.func95.trans (congrArg some (by kernel_rfl))
  f46 := ⟨Tryz.f117.name, by decide, Tryz.func117.trans (congrArg some (by kernel_rfl))⟩
  f47 := Tryz.func102.trans (congrArg some (by kernel_rfl))
  f48 := Tryz.func103.trans (congrArg some (by kernel_rfl))
  f49 := ⟨Tryz.f118.name, by decide, Tryz.func118.trans (congrArg some (by kernel_rfl))⟩
  f50 := ⟨Tryz.f119.name, by decide, Tryz.func119.trans (congrArg some (by kernel_rfl))⟩
  f57 := ⟨Tryz.f120.name, by decide, Tryz.func120.trans (congrArg some (by kernel_rfl))⟩
  t0 := Tryz.underlying0
  a0 := Tryz.isAgg0
  z0 := Tryz.sizeOf0
  v0 := Tryz.zeroValue0
  t3 := Tryz.underlying3
  a3 := Tryz.isAgg3
  z3 := Tryz.sizeOf3
  v3 := Tryz.zeroValue3
  t4 := Tryz.underlying4
  a4 := Tryz.isAgg4
  z4 := Tryz.sizeOf4
  v4 := Tryz.zeroValue4
  t5 := Tryz.underlying5
  a5 := Tryz.isAgg5
  z5 := Tryz.sizeOf5
  v5 := Tryz.zeroValue5
  t9 := Tryz.underlying9
  a9 := Tryz.isAgg9
  z9 := Tryz.sizeOf9
  v9 := Tryz.zeroValue9
  t22 := Tryz.underlying92
  a22 := Tryz.isAgg92
  z22 := Tryz.sizeOf92
  v22 := Tryz.zeroValue92
  a24 := Tryz.isAgg22
  z24 := Tryz.sizeOf22
  t25 := Tryz.underlying69
  a25 := Tryz.isAgg69
  z25 := Tryz.sizeOf69
  v25 := Tryz.zeroValue69
  t39 := Tryz.underlying90
  a39 := Tryz.isAgg90
  z39 := Tryz.sizeOf90
  v39 := Tryz.zeroValue90
  t45 := Tryz.underlying96
  a45 := Tryz.isAgg96
  z45 := Tryz.sizeOf96
  v45 := Tryz.zeroValue96
  t46 := Tryz.underlying97
  a46 := Tryz.isAgg97
  z46 := Tryz.sizeOf97
  v46 := Tryz.zeroValue97
  t50 := Tryz.underlying102
  a50 := Tryz.isAgg102
  z50 := Tryz.sizeOf102
  v50 := Tryz.zeroValue102
  t53 := Tryz.underlying105
  a53 := Tryz.isAgg105
  z53 := Tryz.sizeOf105
  v53 := Tryz.zeroValue105
  t55 := Tryz.underlying107
  a55 := Tryz.isAgg107
  z55 := Tryz.sizeOf107
  v55 := Tryz.zeroValue107
  t66 := Tryz.underlying111
  a66 := Tryz.isAgg111
  z66 := Tryz.sizeOf111
  v66 := Tryz.zeroValue111
  t70 := Tryz.underlying115
  a70 := Tryz.isAgg115
  z70 := Tryz.sizeOf115
  v70 := Tryz.zeroValue115
  t76 := Tryz.underlying124
  a76 := Tryz.isAgg124
  z76 := Tryz.sizeOf124
  v76 := Tryz.zeroValue124
  t77 := Tryz.underlying125
  a77 := Tryz.isAgg125
  z77 := Tryz.sizeOf125
  v77 := Tryz.zeroValue125 }
end Go.Proofs

namespace Go.Proofs.YtohcnicadbpbbaaGreatDoor
open Go.RowKit Go.Firn Go.Sort

/-- The table of the library, in its variable. -/
def Tab (w : World) : Prop := TabAt 1 Lib.deBruijn64tab w
theorem Tab.gr {w w' : World} (h : Tab w) (g : Gr w w') : Tab w' := fun j hj => g.cell (h j hj)

theorem tz64_core (x k idx : Nat) (w : World) (hx0 : ((x : Int) == 0) = false)
    (key : IntKind.u64.wrap (bits BinOp.and IntKind.u64 (x : Int) (IntKind.u64.wrap (-(x : Int))) * 285870213051353865) / 288230376151711744 = (idx : Int))
    (hi : idx < 64) (hk : k < 64) (hcell : w.cell? ⟨1, idx, none⟩ = some (.int .u8 k)) :
    Calls Tryz.prog 99 #[.int .u64 x] w fun e w' => e = .returned (.int .i64 k) ∧ w = w' := by
  go_enter Tryz.func99, Tryz.ntmps99
  go_wp2_with (simp only [key])
  go_ret
  exact ⟨rfl, rfl⟩
theorem tz64_any (x : Nat) (w : World) (hx0 : x ≠ 0) (hx : x < 18446744073709551616) (hT : Tab w) :
    Calls Tryz.prog 99 #[.int .u64 x] w fun e w' => e = .returned (.int .i64 (Lib.ctz 64 x)) ∧ w = w' := by
  obtain ⟨hlow, hk⟩ := Lib.lowest_bit 64 x hx0 hx
  obtain ⟨hi, htab⟩ := Lib.deBruijn64_at _ hk
  have hcell := hT _ hi
  rw [htab] at hcell
  exact tz64_core x _ _ w (by simp; omega) (tz64_key x _ hx hx0 hlow) hi hk hcell
theorem tz_any (x : Nat) (w : World) (hx0 : x ≠ 0) (hx : x < 18446744073709551616) (hT : Tab w) :
    Calls Tryz.prog 79 #[.int .u64 x] w fun e w' => e = .returned (.int .i64 (Lib.ctz 64 x)) ∧ w = w' := by
  have C := Lib.hid (tz64_any x w hx0 hx hT)
  have hw : IntKind.u64.wrap (x : Int) = (x : Int) := by rw [IntKind.wrap_u64]; omega
  clear hT hx hx0
  go_enter Tryz.func79, Tryz.ntmps79
  go_wp2_with (go_at_call 99; (with_reducible refine C.out.mono ?_); rintro e w1 ⟨rfl, rfl⟩)
  go_ret
  exact ⟨rfl, rfl⟩

theorem nf_drop {L : List Nat} {k : Nat} (hk : k < L.length) : ∃ a r, L.drop k = a :: r ∧ nf L k = (a : Int) ∧ L.drop (k + 1) = r := by
  refine ⟨L[k], L.drop (k + 1), ?_, ?_, rfl⟩
  · rw [List.drop_eq_getElem_cons hk]
  · unfold nf; rw [List.getD_eq_getElem?_getD, List.getElem?_eq_getElem hk]; rfl
theorem lexI_cons (a b : Nat) (l m : List Nat) : lexI (a :: l) (b :: m) = if a < b then -1 else if b < a then 1 else lexI l m := rfl

set_option maxHeartbeats 1000000 in
theorem SlCompare_any (av bv : Option Addr) (c d : Nat) (L M : List Nat) (w : World) (hl : L.length ≤ 1000) (hm : M.length ≤ 1000) (hr : RdI w av L.length (nf L)) (hs : RdI w bv M.length (nf M)) :
    Calls Tryz.prog 82 #[.slice av L.length c, .slice bv M.length d] w fun e w' => e = .returned (.int .i64 (lexI L M)) ∧ w = w' := by
  have HR := Lib.hid hr
  have HS := Lib.hid hs
  obtain ⟨V, hV⟩ : ∃ V, lexI L M = V := ⟨_, rfl⟩
  have H0 := Lib.hid (show lexI (L.drop 0) (M.drop 0) = V from hV)
  rw [hV]
  clear hr hs hV
  go_enter Tryz.func82, Tryz.ntmps82
  go_wp2
  go_loop [11] (fun i => ∃ k : Nat, k ≤ L.length ∧ k ≤ M.length ∧ i = .int .i64 k ∧ Hid (lexI (L.drop k) (M.drop k) = V)) (fun i => L.length - (intOf i).toNat)
  case atStart => exact ⟨0, by omega, by omega, rfl, H0⟩
  case round =>
    obtain ⟨k, hk1, hk2, rfl, HE⟩ := hrel
    by_cases hlt : k < L.length
    · have i1 : (k : Int) < (L.length : Int) := by omega
      obtain ⟨b, o, e1, hc⟩ := HR.out.at hlt
      have cx := hc k hlt
      subst e1
      clear hc
      by_cases hlm : k < M.length
      · have i2 : (k : Int) < (M.length : Int) := by omega
        obtain ⟨b2, o2, e2, hc2⟩ := HS.out.at hlm
        have cy := hc2 k hlm
        subst e2
        clear hc2
        obtain ⟨x, r, ex, nx, dx⟩ := nf_drop hlt
        obtain ⟨y, s, ey, ny, dy⟩ := nf_drop hlm
        rw [nx] at cx
        rw [ny] at cy
        have E2 := Lib.hid (show (if x < y then -1 else if y < x then 1 else lexI (L.drop (k + 1)) (M.drop (k + 1))) = V by rw [← HE.out, ex, ey, lexI_cons, dx, dy])
        clear ex nx dx ey ny dy HE
        have i3 : ¬ (k : Int) ≥ (M.length : Int) := by omega
        by_cases h1 : x < y
        · have C := Lib.hid (show ∀ w', Calls Tryz.prog 70 #[.int .i64 x, .int .i64 y] w' fun e w'' => e = .returned (.int .i64 (-1)) ∧ w'' = w' from fun w' => by
            have := Compare_any x y w'
            rwa [show cmpI (x : Int) y = -1 by unfold cmpI; rw [if_pos (by omega)]] at this)
          have EV := Lib.hid (show V = -1 by rw [← E2.out, if_pos h1])
          clear E2 h1
          go_wp2_with (go_at_call 70; (with_reducible refine (C.out _).mono ?_); rintro e w1 ⟨rfl, rfl⟩)
          go_ret
          exact ⟨(by rw [EV.out]; first | done | rfl), rfl⟩
        · by_cases h2 : y < x
          · have C := Lib.hid (show ∀ w', Calls Tryz.prog 70 #[.int .i64 x, .int .i64 y] w' fun e w'' => e = .returned (.int .i64 1) ∧ w'' = w' from fun w' => by
              have := Compare_any x y w'
              rwa [show cmpI (x : Int) y = 1 by unfold cmpI; rw [if_neg (by omega), if_pos (by omega)]] at this)
            have EV := Lib.hid (show V = 1 by rw [← E2.out, if_neg h1, if_pos h2])
            clear E2 h1 h2
            go_wp2_with (go_at_call 70; (with_reducible refine (C.out _).mono ?_); rintro e w1 ⟨rfl, rfl⟩)
            go_ret
            exact ⟨(by rw [EV.out]; first | done | rfl), rfl⟩
          · have C := Lib.hid (show ∀ w', Calls Tryz.prog 70 #[.int .i64 x, .int .i64 y] w' fun e w'' => e = .returned (.int .i64 0) ∧ w'' = w' from fun w' => by
              have := Compare_any x y w'
              rwa [show cmpI (x : Int) y = 0 by unfold cmpI; rw [if_neg (by omega), if_neg (by omega)]] at this)
            have EV := Lib.hid (show lexI (L.drop (k + 1)) (M.drop (k + 1)) = V by rw [← E2.out, if_neg h1, if_neg h2])
            clear E2 h1 h2
            go_wp2_with (go_at_call 70; (with_reducible refine (C.out _).mono ?_); rintro e w1 ⟨rfl, rfl⟩)
            go_round
            case rel => exact ⟨k + 1, by omega, by omega, by go_num, EV⟩
            case measure => simp [intOf]; omega
      · have i3 : (k : Int) ≥ (M.length : Int) := by omega
        have EV := Lib.hid (show V = 1 by
          have hm0 : M.drop k = [] := List.drop_eq_nil_of_le (by omega)
          obtain ⟨x, r, ex, _⟩ := nf_drop hlt
          rw [← HE.out, hm0, ex]; rfl)
        go_wp2
        go_ret
        exact ⟨(by rw [EV.out]; first | done | rfl), rfl⟩
    · have i1 : ¬ (k : Int) < (L.length : Int) := by omega
      have hl0 : L.drop k = [] := List.drop_eq_nil_of_le (by omega)
      by_cases hlm : L.length < M.length
      · have i2 : (L.length : Int) < (M.length : Int) := by omega
        have EV := Lib.hid (show V = -1 by
          obtain ⟨x, r, ex, _⟩ := nf_drop (L := M) (k := k) (by omega)
          rw [← HE.out, hl0, ex]; rfl)
        clear hl0
        go_wp2
        go_ret
        exact ⟨(by rw [EV.out]; first | done | rfl), rfl⟩
      · have i2 : ¬ (L.length : Int) < (M.length : Int) := by omega
        have EV := Lib.hid (show V = 0 by
          have hm0 : M.drop k = [] := List.drop_eq_nil_of_le (by omega)
          rw [← HE.out, hl0, hm0]; rfl)
        clear hl0
        go_wp2
        go_ret
        exact ⟨(by rw [EV.out]; first | done | rfl), rfl⟩

set_option maxHeartbeats 1000000 in
/-- The comparison of two cuts. -/
theorem cuts11_any (av bv : Option Addr) (c d : Nat) (L M : List Nat) (w : World) (hl : L.length ≤ 1000) (hm : M.length ≤ 1000) (hr : RdI w av L.length (nf L)) (hs : RdI w bv M.length (nf M)) :
    Calls Tryz.prog 81 #[.slice av L.length c, .slice bv M.length d] w fun e w' => e = .returned (.int .i64 (cfL L M)) ∧ ∃ q os', w' = grow (w.drewN q) os' := by
  have C := Lib.hid (SlCompare_any av bv c d L M w hl hm hr hs)
  have E := Lib.hid (show orI (cmpI L.length M.length) (lexI L M) = cfL L M from rfl)
  clear hr hs hl hm
  generalize lexI L M = y at *
  go_enter Tryz.func81, Tryz.ntmps81
  go_wp2_with (first
    | (go_at_call 70; (with_reducible refine (Compare_any _ _ _).mono ?_); rintro e w1 ⟨rfl, rfl⟩)
    | (go_at_call 82; (with_reducible refine C.out.mono ?_); rintro e w1 ⟨rfl, rfl⟩)
    | (go_at_call 69; (with_reducible refine (Or_any _ _ _ _ _ (cell_new2 _ _ _ _).1 (cell_new2 _ _ _ _).2).mono ?_); rintro e w1 ⟨rfl, rfl⟩))
  go_ret
  exact ⟨by rw [E.out]; rfl, 0, _, by rw [alloc_eq_grow]; rfl⟩

end Go.Proofs.YtohcnicadbpbbaaGreatDoor

namespace Go.Proofs.YtohcnicadbpbbaaGreatDoor
open Go.RowKit Go.Firn Go.Sort

/-- The cut of a set. -/
def cS (n s : Nat) : List Nat := onL s.testBit n
/-- A set without its lowest j outcomes. -/
def rs (s : Nat) : Nat → Nat
  | 0 => s
  | j + 1 => rs s j &&& (rs s j - 1)
set_option maxRecDepth 100000 in
theorem rs_fin : ∀ s : Nat, s < 1024 → ∀ j : Nat, j < 11 → (rs s j = 0 ↔ (onL s.testBit 10).length ≤ j) ∧ (rs s j ≠ 0 → Lib.ctz 64 (rs s j) = (onL s.testBit 10).getD j 0) ∧ rs s j < 1024 := by decide +kernel
theorem cS_ten {n s : Nat} (hn : n ≤ 10) (hs : s < 2 ^ n) : cS n s = onL s.testBit 10 := by
  obtain ⟨d, hd⟩ : ∃ d, 10 = n + d := ⟨10 - n, by omega⟩
  rw [hd]
  clear hn hd
  unfold cS
  induction d with
  | zero => rfl
  | succ d ih =>
    rw [show n + (d + 1) = (n + d) + 1 by omega, onL_succ, ← ih]
    have : s.testBit (n + d) = false := Nat.testBit_lt_two_pow (Nat.lt_of_lt_of_le hs (Nat.pow_le_pow_right (by decide) (by omega)))
    rw [this]; simp
theorem two_pow_le {n : Nat} (hn : n ≤ 10) : 2 ^ n ≤ 1024 := Nat.pow_le_pow_right (by decide) hn
theorem rs_law {n s j : Nat} (hn : n ≤ 10) (hs : s < 2 ^ n) (hj : j ≤ (cS n s).length) : (rs s j = 0 ↔ (cS n s).length ≤ j) ∧ (rs s j ≠ 0 → (Lib.ctz 64 (rs s j) : Int) = nf (cS n s) j) ∧ rs s j < 1024 := by
  have h10 := two_pow_le hn
  have hl := onL_len s.testBit n
  have h := rs_fin s (by omega) j (by have : (cS n s).length ≤ n := hl; omega)
  rw [← cS_ten hn hs] at h
  refine ⟨h.1, fun h0 => ?_, h.2.2⟩
  rw [h.2.1 h0]
  rfl
theorem cS_inj {n s t : Nat} (hs : s < 2 ^ n) (ht : t < 2 ^ n) (h : cS n s = cS n t) : s = t := by
  refine Nat.eq_of_testBit_eq fun i => ?_
  by_cases hi : i < n
  · have a : i ∈ cS n s ↔ i ∈ cS n t := by rw [h]
    unfold cS at a
    rw [onL_mem, onL_mem] at a
    cases h1 : s.testBit i <;> cases h2 : t.testBit i <;> simp_all
  · rw [Nat.testBit_lt_two_pow (Nat.lt_of_lt_of_le hs (Nat.pow_le_pow_right (by decide) (by omega))), Nat.testBit_lt_two_pow (Nat.lt_of_lt_of_le ht (Nat.pow_le_pow_right (by decide) (by omega)))]

/-- A set of outcomes. -/
structure Cs (n : Nat) where
  v : Nat
  lt : v < 2 ^ n
instance (n : Nat) : Inhabited (Cs n) := ⟨⟨0, Nat.two_pow_pos n⟩⟩
def cfC (n : Nat) (x y : Cs n) : Int := cfL (cS n x.v) (cS n y.v)
theorem ltC_false {n : Nat} {x y : Cs n} : ltOf (cfC n) x y = false ↔ ¬ cfL (cS n x.v) (cS n y.v) < 0 := by
  unfold ltOf cfC; rw [decide_eq_false_iff_not]
theorem swoC (n : Nat) : SWO (ltOf (cfC n)) where
  irrefl x := by rw [ltC_false, cfL_zero.2 rfl]; omega
  trans x y z h1 h2 := by
    unfold ltOf cfC at *
    rw [decide_eq_true_eq] at *
    exact cfL_tr h1 h2
  ntrans x y z h1 h2 := by
    rw [ltC_false] at *
    have := cfL_le (cfL_no h2) (cfL_no h1)
    intro h
    have := cfL_gt.2 h
    omega
/-- All sets. -/
def allC (n : Nat) : Array (Cs n) := Array.ofFn fun i : Fin (2 ^ n) => (⟨i.val, i.isLt⟩ : Cs n)
theorem allC_size (n : Nat) : (allC n).size = 2 ^ n := by simp [allC]
theorem allC_at {n i : Nat} (hi : i < 2 ^ n) : (allC n)[i]! = ⟨i, hi⟩ := by
  have h : i < (allC n).size := by rw [allC_size]; exact hi
  rw [getElem!_pos _ i h]
  simp [allC]
/-- The sets in order. -/
structure OrdC (n : Nat) (C : Nat → Nat) : Prop where
  lt : ∀ i, i < 2 ^ n → C i < 2 ^ n
  up : ((List.range (2 ^ n)).map C).Pairwise fun s t => cfL (cS n s) (cS n t) ≤ 0
  all : ∀ s, s ∈ (List.range (2 ^ n)).map C ↔ s < 2 ^ n
theorem ordC_of {n : Nat} {d : Array (Cs n)} (hp : PermIn 0 (2 ^ n) (allC n) d) (hs : SortedIn (ltOf (cfC n)) 0 (2 ^ n) d) : OrdC n fun i => d[i]!.v := by
  obtain ⟨h1, _, h2⟩ := hp
  rw [allC_size] at h1
  have e1 : d.extract 0 (2 ^ n) = d := by rw [← h1]; exact Array.extract_size
  have e2 : (allC n).extract 0 (2 ^ n) = allC n := by rw [← allC_size n]; exact Array.extract_size
  rw [e1, e2] at h2
  have el : (List.range (2 ^ n)).map (fun i => d[i]!.v) = d.toList.map Cs.v := by
    refine List.ext_getElem (by simp [h1]) fun i a b => ?_
    have hi : i < d.size := by simpa using b
    simp [getElem!_pos d i hi]
  refine ⟨fun i _ => (d[i]!).lt, ?_, fun s => ?_⟩
  · rw [List.pairwise_iff_getElem]
    intro i j hi hj hij
    have hi' : i < 2 ^ n := by simpa using hi
    have hj' : j < 2 ^ n := by simpa using hj
    have := hs i j (Nat.zero_le _) hij hj'
    rw [ltC_false] at this
    simp only [List.getElem_map, List.getElem_range]
    exact cfL_no this
  · rw [el]
    have hm : s ∈ d.toList.map Cs.v ↔ s ∈ (allC n).toList.map Cs.v := (h2.map Cs.v).mem_iff
    rw [hm]
    constructor
    · intro h
      obtain ⟨x, _, rfl⟩ := List.mem_map.1 h
      exact x.lt
    · intro h
      exact List.mem_map.2 ⟨⟨s, h⟩, by simp [allC]; exact ⟨⟨s, h⟩, rfl⟩, rfl⟩

end Go.Proofs.YtohcnicadbpbbaaGreatDoor

namespace Go.Firn
open Go.RowKit
section
variable {F : Fence} {n : Nat} {P : Program}
/-- append(v, r) inside a fence: the row with one int more. -/
theorem wpListIn_app_int {ops : Array Oper} {rest : List Oper} {o : Oper} {a : Act} {Q : Exit → Act → World → Prop} (hgd : o.guard = none) (s x : Operand) (t e : TypeId)
    (ho : o.op = .call { callee := .builtin .append, args := #[s, x], argTypes := #[t, t] })
    (ht : P.underlying t = some (.slice e)) (hinfo : (P.info? e).map (fun i => (i.zero, i.size, i.bytes)) = some (some (.int .i64 0), 1, 8))
    {w0 w : World} (v : Value) (k : Nat) (f : Nat → Int) (hs : a.eval s = v) (hown : OwnI w0 e w v k f)
    (g : Nat) (r : Int) (hx : a.eval x = .slice (some ⟨g, 0, none⟩) 1 1) (hg : w.cell? ⟨g, 0, none⟩ = some (.int .i64 r)) (hf : f k = r) (hk : k < 1000000000)
    (h : ∀ v' w', OwnI w0 e w' v' (k + 1) f → w.grownBy w' v.ownBlock → wpListIn F n P ops Q rest (a.put o.dst v') w') : wpListIn F n P ops Q (o :: rest) a w := by
  obtain ⟨i0, hi, hz0, hz1, hz2⟩ := info_int hinfo
  subst hf
  refine wpListIn_append_own w hgd s x t ho w0.heap.size e i0 (.int .i64 0) 1 8 ht hi hz0 hz1 hz2 rfl (by decide) v k (ints k f) hs hown.1 ⟨g, 0, none⟩ 1 1 [.int .i64 (f k)] hx rfl ?_ ?_ ?_ ?_ hown.2.size ?_
  · intro j u hu
    cases j with
    | zero => simp at hu; subst hu; exact hg
    | succ j => simp at hu
  · simp [Value.oneCell']
  · unfold maxLen; omega
  · omega
  · intro v' w' h1 h2 _
    rw [← ints_succ] at h1
    exact h v' w' ⟨h1, hown.2.grown h2 fun k hk => (hown.1.lt k hk).1⟩ h2
/-- append(v, l) inside a fence: the table with one list more. -/
theorem wpListIn_app_list {ops : Array Oper} {rest : List Oper} {o : Oper} {a : Act} {Q : Exit → Act → World → Prop} (hgd : o.guard = none) (s x : Operand) (t : TypeId)
    (ho : o.op = .call { callee := .builtin .append, args := #[s, x], argTypes := #[t, t] })
    (ht : P.underlying t = some (.slice 22)) (hinfo : (P.info? 22).map (fun i => (i.zero, i.size, i.bytes)) = some (some (.slice none 0 0), 1, 24))
    {w0 w : World} {base : Nat} (f : List Nat → Nat → Int) (v : Value) (tb : List (List Nat)) (hs : a.eval s = v) (hown : OwnT w0 base f w v tb)
    (g : Nat) (y : Value) (l : List Nat) (hx : a.eval x = .slice (some ⟨g, 0, none⟩) 1 1) (hg : w.cell? ⟨g, 0, none⟩ = some y) (hy : Holds base w v f y l) (hk : tb.length < 1000000)
    (h : ∀ v' w', OwnT w0 base f w' v' (tb ++ [l]) → w.grownBy w' v.ownBlock → wpListIn F n P ops Q rest (a.put o.dst v') w') : wpListIn F n P ops Q (o :: rest) a w := by
  obtain ⟨h0, xs, h1, h2⟩ := hown
  obtain ⟨i0, hi, hz0, hz1, hz2⟩ := info_slice hinfo
  have hone : y.oneCell' = true := by obtain ⟨a', c', rfl, _⟩ := hy; rfl
  refine wpListIn_append_own_at w hgd s x t ho base 22 i0 (.slice none 0 0) 1 24 ht hi hz0 hz1 hz2 rfl (by decide) v tb.length xs hs h1 ⟨g, 0, none⟩ 1 1 [y] hx rfl ?_ ?_ ?_ ?_ h0.2.2 ?_
  · intro j u hu
    cases j with
    | zero => simp at hu; subst hu; exact hg
    | succ j => simp at hu
  · intro u hu; simp at hu; subst hu; exact hone
  · unfold maxLen; omega
  · omega
  · intro v' w' k1 k2 _ k4
    refine h v' w' ⟨⟨h0.1.grown k2 fun k hk => Nat.le_trans h0.2.1 (h1.lt k hk).1, h0.2.1, Nat.le_trans h0.2.2 k2.size⟩, xs ++ [y], by rw [List.length_append]; exact k1, fun i hi => ?_⟩ k2
    have hxl : xs.length = tb.length := by have := h1.1; omega
    have keep : ∀ z l', Holds base w v f z l' → Holds base w' v' f z l' := by
      rintro z l' ⟨a', c', e1, e2, e3, e4, e5⟩
      refine ⟨a', c', e1, e2, e3, ?_, ?_⟩
      · rcases e5 with e5 | ⟨b, o, rfl, e6, e7, e10⟩
        · exact .inl e5
        · rcases e4 with e4 | ⟨b', o', e8, e9⟩
          · exact .inl e4
          · cases e8
            exact .inr ⟨b, o, rfl, fun j hj => k2.cell (e9 j hj) e7⟩
      · rcases e5 with e5 | ⟨b, o, rfl, e6, e7, e10⟩
        · exact .inl e5
        · refine .inr ⟨b, o, rfl, Nat.lt_of_lt_of_le e6 k2.size, ?_, e10⟩
          rcases k4 with k4 | k4
          · rw [k4]; exact e7
          · rw [k4]; intro e; cases e; omega
    rw [List.length_append] at hi
    by_cases e : i < tb.length
    · obtain ⟨z, hz, hh⟩ := h2 i e
      refine ⟨z, by rw [List.getElem?_append_left (by omega)]; exact hz, ?_⟩
      have : (tb ++ [l]).getD i [] = tb.getD i [] := by rw [List.getD, List.getD, List.getElem?_append_left e]
      rw [this]
      exact keep _ _ hh
    · have ei : i = tb.length := by simp at hi; omega
      subst ei
      refine ⟨y, by rw [List.getElem?_append_right (by omega), hxl]; simp, ?_⟩
      have : (tb ++ [l]).getD tb.length [] = l := by rw [List.getD, List.getElem?_append_right (by omega)]; simp
      rw [this]
      exact keep _ _ hy
end
end Go.Firn
namespace Go.Proofs.YtohcnicadbpbbaaGreatDoor
open Go.RowKit Go.Firn Go.Sort Go.Shelf

/-- A slice that holds the list l, in a block behind base. -/
def LiB (w : World) (base : Nat) (l : List Nat) (x : Value) : Prop := ∃ a c, x = .slice a l.length c ∧ l.length ≤ c ∧ c ≤ maxLen ∧ (l.length = 0 ∨ ∃ b o, a = some ⟨b, o, none⟩ ∧ base ≤ b ∧ ∀ j, j < l.length → w.cell? ⟨b, o + j, none⟩ = some (.int .i64 (nf l j)))
theorem LiB.gr {w w' : World} {base : Nat} {l : List Nat} {x : Value} (h : LiB w base l x) (g : Gr w w') : LiB w' base l x := by
  obtain ⟨a, c, h1, h2, h3, h4⟩ := h
  refine ⟨a, c, h1, h2, h3, h4.imp id ?_⟩
  rintro ⟨b, o, k1, k2, k3⟩
  exact ⟨b, o, k1, k2, fun j hj => g.cell (k3 j hj)⟩
theorem LiB.low {w : World} {base base' : Nat} {l : List Nat} {x : Value} (h : LiB w base l x) (hb : base' ≤ base) : LiB w base' l x := by
  obtain ⟨a, c, h1, h2, h3, h4⟩ := h
  refine ⟨a, c, h1, h2, h3, h4.imp id ?_⟩
  rintro ⟨b, o, k1, k2, k3⟩
  exact ⟨b, o, k1, by omega, k3⟩
theorem LiB.kc {K : Nat → Prop} {w w' : World} {base : Nat} {l : List Nat} {x : Value} (h : LiB w base l x) (g : Kc K w w') (hK : ∀ k, base ≤ k → K k) : LiB w' base l x := by
  obtain ⟨a, c, h1, h2, h3, h4⟩ := h
  refine ⟨a, c, h1, h2, h3, h4.imp id ?_⟩
  rintro ⟨b, o, k1, k2, k3⟩
  exact ⟨b, o, k1, k2, fun j hj => g _ _ (hK b k2) (k3 j hj)⟩
theorem LiB.rd {w : World} {base : Nat} {l : List Nat} {x : Value} (h : LiB w base l x) : ∃ a c, x = .slice a l.length c ∧ l.length ≤ c ∧ c ≤ maxLen ∧ RdI w a l.length (nf l) := by
  obtain ⟨a, c, h1, h2, h3, h4⟩ := h
  refine ⟨a, c, h1, h2, h3, h4.imp id ?_⟩
  rintro ⟨b, o, k1, k2, k3⟩
  exact ⟨b, o, k1, k3⟩
theorem grown_sort1 {α : Type} [Inhabited α] {enc : α → Value} {w : World} {g n : Nat} {os : Array Obj} (d : Array α) : w.grownBy (sortWorld enc w g 0 n d os) (some g) := by
  unfold sortWorld
  refine ⟨rfl, rfl, rfl, by simp, fun k hk hne => ?_⟩
  rw [heap_grow_old _ _ (by simpa using hk)]
  have : g ≠ k := fun e => hne (by rw [e])
  simp [putRow, mapBlock, Sort.ahead, Array.getElem?_modify, this]

/-- The table of the cuts of all sets. -/
def tabC (n : Nat) : List (List Nat) := (List.range (2 ^ n)).map (cS n)
theorem tabC_len (n : Nat) : (tabC n).length = 2 ^ n := by simp [tabC]
theorem tabC_at {n s : Nat} (hs : s < 2 ^ n) : (tabC n).getD s [] = cS n s := by simp [tabC, hs]
theorem cS_len {n : Nat} (s : Nat) : (cS n s).length ≤ n := onL_len _ n

set_option maxHeartbeats 1000000 in
theorem SortFunc_any {n : Nat} (hn : n ≤ 10) {base : Nat} {W w : World} {v : Value} (h : OwnT W base nf w v (tabC n)) :
    Calls Tryz.prog 80 #[v, .func (.func 81) #[] #[]] w fun e w' => e = .returned (.tuple #[]) ∧ ∃ (C : Nat → Nat) (A : Nat → Value) (g cap : Nat), OrdC n C ∧ v = .slice (some ⟨g, 0, none⟩) (2 ^ n) cap ∧ 2 ^ n ≤ cap ∧ cap ≤ maxLen ∧ base ≤ g ∧ w.grownBy w' (some g) ∧
      (∀ i, i < 2 ^ n → w'.cell? ⟨g, i, none⟩ = some (A (C i))) ∧ ∀ s, s < 2 ^ n → LiB w' base (cS n s) (A s) := by
  obtain ⟨h0, xs, h1, h2⟩ := h
  have h1' := h1
  obtain ⟨hl, hv⟩ := h1'
  rw [tabC_len] at h2 h1
  have h10 := two_pow_le hn
  have hpos := Nat.two_pow_pos n
  rcases hv with ⟨rfl, hz⟩ | ⟨g, cap, cur, rfl, hb, hg, hnc, hcm, hcs, htake⟩
  · rw [tabC_len] at hz; omega
  · rw [tabC_len] at hnc ⊢
    obtain ⟨A, hA⟩ : ∃ A : Nat → Value, ∀ s, s < 2 ^ n → xs[s]? = some (A s) ∧ Firn.Holds base w (.slice (some ⟨g, 0, none⟩) (2 ^ n) cap) nf (A s) (cS n s) := by
      refine ⟨fun s => xs.getD s (.slice none 0 0), fun s hs => ?_⟩
      obtain ⟨x, hx, hh⟩ := h2 s hs
      rw [tabC_at hs, tabC_len] at hh
      have : xs.getD s (.slice none 0 0) = x := by rw [List.getD_eq_getElem?_getD, hx]; rfl
      exact ⟨by show xs[s]? = some (xs.getD s (.slice none 0 0)); rw [this]; exact hx, by show Firn.Holds _ _ _ _ (xs.getD s (.slice none 0 0)) _; rw [this]; exact hh⟩
    have hblk : g < w.heap.size := (Array.getElem?_eq_some_iff.1 hg).1
    have hlib : ∀ s, s < 2 ^ n → ∀ w', w.grownBy w' (some g) → LiB w' base (cS n s) (A s) := fun s hs w' hw => by
      obtain ⟨a, c, e1, e2, e3, e4, e5⟩ := (hA s hs).2
      refine ⟨a, c, e1, e2, e3, ?_⟩
      rcases e5 with e5 | ⟨b, o, rfl, e6, e7, e8⟩
      · exact .inl e5
      · refine .inr ⟨b, o, rfl, e8, fun j hj => ?_⟩
        rcases e4 with e4 | ⟨b', o', e9, e10⟩
        · omega
        · cases e9
          exact hw.cell (e10 j hj) (by simpa [Value.ownBlock] using e7)
    have enc1 : OneCell (fun x : Cs n => A x.v) := fun x => by
      obtain ⟨a, c, e1, _⟩ := (hA x.v x.lt).2
      show (A x.v).oneCell' = true
      rw [e1]; rfl
    have hH : Sort.Holds (fun x : Cs n => A x.v) w g 0 (allC n) := fun j hj => by
      rw [allC_size] at hj
      have c0 := h1.cells (g := g) rfl _ _ (hA j hj).1
      rw [add_flat rfl] at c0
      rw [allC_at hj]
      refine ⟨c0, ?_⟩
      simp [World.frozen?, hg]
    have hcmp : CmpLays1 Tryz.prog 81 #[] (fun x : Cs n => A x.v) (cfC n) g 0 (allC n).size w := fun m os dk _ x y => by
      obtain ⟨a, c, e1, e2, e3, e4⟩ := (hlib x.v x.lt _ (grown_sort1 (enc := fun x : Cs n => A x.v) (n := m) (os := os) dk)).rd
      obtain ⟨a', c', k1, k2, k3, k4⟩ := (hlib y.v y.lt _ (grown_sort1 (enc := fun x : Cs n => A x.v) (n := m) (os := os) dk)).rd
      have l1 := cS_len (n := n) x.v
      have l2 := cS_len (n := n) y.v
      have := cuts11_any a a' c c' (cS n x.v) (cS n y.v) _ (by omega) (by omega) e4 k4
      show Calls Tryz.prog 81 (#[A x.v, A y.v] ++ #[]) _ _
      rw [e1, k1]
      exact this
    have hs : Calls Tryz.prog 80 #[.slice (some ⟨g, 0, none⟩) (allC n).size cap, .func (.func 81) #[] #[]] w _ := Any.slices_SortFunc Tryz.sortF (fun x : Cs n => A x.v) enc1 (cfC n) (swoC n) 81 #[] g 0 cap (allC n) w (enters_of Tryz.func81 (by kernel_rfl) rfl) hcmp hH hblk (by rw [allC_size]; omega)
    rw [allC_size] at hs
    refine hs.mono ?_
    rintro e w' ⟨rfl, d', m, os, hp, ho, rfl⟩
    have hsz : d'.size = (allC n).size := hp.1
    have H2 := holds_putRow (fun x : Cs n => A x.v) (Sort.ahead w m) g 0 _ d' (holds_ahead (fun x : Cs n => A x.v) w m g 0 _ hH) hsz
    refine ⟨rfl, fun i => d'[i]!.v, A, g, cap, ordC_of hp ho, rfl, hnc, hcm, hb, grown_sort1 d', fun i hi => ?_, fun s hs => hlib s hs _ (grown_sort1 d')⟩
    have k := H2 i (by rw [hsz, allC_size]; exact hi)
    rw [Nat.zero_add] at k
    have hb2 : g < (putRow (fun x : Cs n => A x.v) (Sort.ahead w m) g 0 d').heap.size := World.block_lt_of_cell? _ _ k.1
    show (grow (putRow (fun x : Cs n => A x.v) (Sort.ahead w m) g 0 d') os).cell? _ = _
    rw [cell?_grow _ _ _ hb2, k.1]

end Go.Proofs.YtohcnicadbpbbaaGreatDoor

namespace Go.Proofs.YtohcnicadbpbbaaGreatDoor
open Go.RowKit Go.Firn Go.Shelf Go.Sort
attribute [local go_sem] Oper.semAt_some
attribute [local simp] wide_fn

theorem Tryz.info22 : (Tryz.prog.info? 22).map (fun i => (i.zero, i.size, i.bytes)) = some (some (.slice none 0 0), 1, 24) := by kernel_rfl
theorem shl64 : ∀ n : Nat, n < 11 → IntKind.u64.wrap ((2 : Int) ^ n) = ((2 ^ n : Nat) : Int) ∧ (2 : Int) ^ n = ((2 ^ n : Nat) : Int) := by decide +kernel
/-- A cut, as it is handed to a round. -/
def HxC (n B : Nat) (x : Nat × Value) (W : World) : Prop := x.1 < 2 ^ n ∧ LiB W B (cS n x.1) x.2
def encC (x : Nat × Value) : Array Value := #[x.2]
/-- A cut of the call's own is what a table holds. -/
theorem holds_own {wS w : World} {base : Nat} {v cv : Value} {L : List Nat} (hv : ∀ b, v.ownBlock = some b → b < wS.heap.size) (hb : base ≤ wS.heap.size) (h : OwnI wS 3 w cv L.length (nf L)) : Firn.Holds base w v nf cv L := by
  obtain ⟨a, c, rfl, h1, h2, h3⟩ := h.rd
  refine ⟨a, c, rfl, h1, h2, h3, ?_⟩
  rcases h.1.2 with ⟨e, hz⟩ | ⟨g, cap, cur, e, hg, hh, _⟩
  · exact .inl hz
  · cases e
    refine .inr ⟨g, 0, rfl, (Array.getElem?_eq_some_iff.1 hh).1, fun e => ?_, by omega⟩
    have := hv g e.symm
    omega
theorem bits_and_nat (a b : Nat) (ha : a < 1024) (hb : b < 1024) : bits BinOp.and IntKind.u64 (a : Int) (b : Int) = ((a &&& b : Nat) : Int) := bits_and_u64_nat a b (by omega) (by omega)

set_option maxHeartbeats 4000000 in
set_option maxRecDepth 100000 in
theorem cuts1_seqP {K : Nat → Prop} (m : Nat) (hm : 1 ≤ m) (bs n c d : Nat) (a a2 : Option Addr) (x y : Int) (w : World) (hn : n ≤ 10) (hbs : Box4 w bs (.slice a n c) (.slice a2 n d) (.int .i64 x) (.int .i64 y)) (hT : Tab w) (hK2 : ∀ k, w.heap.size ≤ k → K k) :
    SeqP Fence.wide m Tryz.prog 78 #[.pointer (some ⟨bs, 0, none⟩)] encC (fun _ _ => True) (HxC n w.heap.size) (Kc K) (fun xs => ∃ C, OrdC n C ∧ xs.map (·.1) = (List.range (2 ^ n)).map C) w := fun l J W hW hJ hY h0 => by
  obtain ⟨p0, p1, p2, p3, _⟩ := hbs.gr hW
  have HT := Lib.hid (hT.gr hW)
  have YY := Lib.hid hY
  have JJ := Lib.hid hJ
  have H0 := Lib.hid h0
  have HK := Lib.hid hK2
  have SZ : w.heap.size ≤ W.heap.size := Gr.size hW
  obtain ⟨sh1, sh2⟩ := shl64 n (by omega)
  have SH := Lib.hid sh2
  have h10 := two_pow_le hn
  obtain ⟨N, hN⟩ : ∃ N, 2 ^ n = N := ⟨_, rfl⟩
  rw [hN] at sh1 h10
  have HN := Lib.hid hN
  clear hbs hT hY hJ h0 hK2 hW sh2 hN
  refine callsIn_of_wp Tryz.func78 rfl trivial ?_ rfl
  simp only [Tryz.ntmps78, List.size_toArray, List.length_cons, List.length_nil, Nat.reduceAdd, Nat.reduceSub, Array.replicate_succ, Array.replicate_zero, List.push_toArray, List.append_toArray, List.nil_append, List.cons_append]
  gi_wp2_with (gi_at_call 30; (with_reducible refine (callsIn_wide.2 (many_any _ _ _ _ _ _ _)).mono ?_); rintro e w1 ⟨rfl, g1⟩; have G1 := Lib.hid g1; clear g1)
  gi_loopw [3, 12] (fun v i wr => ∃ s : Nat, s ≤ N ∧ i = .int .u64 s ∧ Hid (OwnT W W.heap.size nf wr v ((List.range s).map (cS n)))) (fun _ i _ => N - (intOf i).toNat)
  case atStart => exact ⟨0, by omega, rfl, Lib.hid (OwnT.nil' G1.out (Nat.le_refl _) (Gr.size G1.out) nf)⟩
  case round =>
    obtain ⟨s, hs, rfl, HT1⟩ := hrel
    by_cases hlt : s < N
    · have i1 : (s : Int) < (N : Int) := by omega
      have HL := Lib.hid (fun j hj => rs_law (n := n) (s := s) (j := j) hn (by rw [HN.out]; exact hlt) hj)
      have LL := cS_len (n := n) s
      have qs : IntKind.u64.wrap ((s : Int) + 1) = ((s + 1 : Nat) : Int) := by rw [IntKind.wrap_u64]; omega
      have TS := Lib.hid (show (List.range (s + 1)).map (cS n) = (List.range s).map (cS n) ++ [cS n s] by rw [List.range_succ, List.map_append]; rfl)
      have TL := Lib.hid (show ((List.range s).map (cS n)).length < 1000000 by simp; omega)
      have R0 := Lib.hid (show rs s 0 = s from rfl)
      generalize (List.range s).map (cS n) = tb at *
      generalize wr = wS at *
      gi_wp2
      gi_loopw [5, 6] (fun cv r wq => ∃ j : Nat, j ≤ (cS n s).length ∧ r = .int .u64 (rs s j : Nat) ∧ Hid (OwnI wS 3 wq cv j (nf (cS n s)))) (fun _ r _ => (intOf r).toNat)
      case atStart => exact ⟨0, by omega, by rw [R0.out], Lib.hid (OwnI.nil _ _ _)⟩
      case round =>
        obtain ⟨j, hj, rfl, HO⟩ := hrel
        obtain ⟨r1, r2, r3⟩ := HL.out j hj
        by_cases hlj : j < (cS n s).length
        · have r0 : rs s j ≠ 0 := fun e => by have := r1.1 e; omega
          have CZ := Lib.hid (r2 r0).symm
          have ES := Lib.hid (show rs s (j + 1) = rs s j &&& (rs s j - 1) from rfl)
          have LT := Lib.hid (show rs s (j + 1) < rs s j by rw [ES.out]; have := Nat.and_le_right (n := rs s j) (m := rs s j - 1); omega)
          clear r1 r2
          generalize hr' : rs s (j + 1) = r' at *
          have HR' := Lib.hid hr'
          clear hr'
          generalize rs s j = r at *
          have b0 : ((r : Int) == 0) = false := by simp; omega
          have b1 : ((r : Int) != 0) = true := by simp; omega
          have qa : IntKind.u64.wrap ((r : Int) - 1) = ((r - 1 : Nat) : Int) := by rw [IntKind.wrap_u64]; omega
          have qb : bits BinOp.and IntKind.u64 (r : Int) ((r - 1 : Nat) : Int) = (r' : Int) := by rw [bits_and_nat _ _ r3 (by omega), ES.out]
          have CT := Lib.hid (fun w' (hT : Tab w') => tz_any r w' r0 (by omega) hT)
          have k9 : j < 1000000000 := by omega
          have HTr := Lib.hid (HT.out.gr (HT1.out.1.1.trans HO.out.2))
          have LT2 := LT.out
          clear r0
          gi_wp2_with (first
            | (gi_at_call 79; (with_reducible refine (callsIn_wide.2 (CT.out _ HTr.out)).mono ?_); rintro e w2 ⟨rfl, rfl⟩)
            | (gi_at_builtin; refine wpListIn_app_int rfl _ _ 22 3 rfl Tryz.underlying22 Tryz.info3 _ j _ rfl (HO.out.gr ((Gr.refl _).alloc _)) _ _ rfl (cell_new1 _ _ _) CZ.out k9 ?_; intro v1 w3 hown1 _; have HO1 := Lib.hid hown1; clear hown1))
          go_roundw
          case rel => exact ⟨j + 1, hlj, by rw [HR'.out], HO1⟩
          case measure => simp [intOf]; omega
        · have e0 : rs s j = 0 := r1.2 (by omega)
          have ej : j = (cS n s).length := by omega
          have HO2 := Lib.hid (show OwnI wS 3 wr _ (cS n s).length (nf (cS n s)) from ej ▸ HO.out)
          have OT := Lib.hid (HT1.out.gr HO.out.2)
          have HH := Lib.hid (holds_own (fun b hb => HT1.out.lt hb) HT1.out.1.2.2 HO2.out)
          obtain ⟨ac, cc, rfl, _, _, _⟩ := HO2.out.rd
          clear r1 r2 r3 ej
          rw [e0]
          clear e0 HO
          gi_wp2_with (gi_at_builtin; refine wpListIn_app_list rfl _ _ 92 rfl Tryz.underlying92 Tryz.info22 nf _ _ rfl (OT.out.gr ((Gr.refl _).alloc _)) _ _ (cS n s) rfl (cell_new1 _ _ _) (HH.out.gr ((Gr.refl _).alloc _)) TL.out ?_; intro v1 w4 ow4 _; have OW := Lib.hid ow4; clear ow4)
          go_roundw
          case rel => exact ⟨s + 1, hlt, by go_num, by rw [TS.out]; exact OW⟩
          case measure => simp [intOf]; omega
    · have i1 : ¬ (s : Int) < (N : Int) := by omega
      have OT := Lib.hid (show OwnT W W.heap.size nf wr _ (tabC n) by unfold tabC; rw [HN.out, ← show s = N by omega]; exact HT1.out)
      clear HT1
      gi_wp2_with (gi_at_call 80; (with_reducible refine (callsIn_wide.2 (SortFunc_any hn OT.out)).mono ?_); rintro e w5 ⟨rfl, C, A, g, cap, oc, ev, l1, l2, hg, gs, hc, hl⟩; rw [HN.out] at ev l1 hc; have GS := Lib.hid (OT.out.1.1.grown gs (fun k hk => by cases hk; exact hg)); have OC := Lib.hid oc; have HC := Lib.hid hc; have HLi := Lib.hid hl; clear oc gs hc hl; subst ev)
      have J5 := Lib.hid (JJ.out [] W w5 none H0.out (grows GS.out) (fun r e => by cases e))
      gi_loopw [36] (fun i wr => ∃ k : Nat, k ≤ N ∧ i = .int .i64 k ∧ Hid (J ((List.range k).map (fun j => (C j, A (C j)))) wr) ∧ Hid (Kc K w5 wr)) (fun i _ => N - (intOf i).toNat)
      case atStart => exact ⟨0, by omega, rfl, J5, Lib.hid (fun _ _ _ h => h)⟩
      case round =>
        obtain ⟨k, hk, rfl, HJ, HKc⟩ := hrel
        by_cases hlk : k < N
        · have i2 : (k : Int) < (N : Int) := by omega
          have kg : K g := HK.out g (by omega)
          have cx := HKc.out ⟨g, k, none⟩ _ kg (HC.out k hlk)
          have CL := OC.out.lt k (by rw [HN.out]; exact hlk)
          have HX := Lib.hid (show HxC n w.heap.size (C k, A (C k)) wr from ⟨CL, ((HLi.out (C k) CL).kc HKc.out (fun i hi => HK.out i (by omega))).low SZ⟩)
          have E := Lib.hid (show (List.range (k + 1)).map (fun j => (C j, A (C j))) = (List.range k).map (fun j => (C j, A (C j))) ++ [(C k, A (C k))] by rw [List.range_succ, List.map_append]; rfl)
          obtain ⟨fn, tmps, assign, body, hy, hR⟩ := YY.out _ (C k, A (C k)) wr trivial HJ.out HX.out
          have hy' : (Instr.yield l #[A (C k)]).run Tryz.prog wr = .ok (.round l fn tmps assign body) wr := hy
          have HRR := Lib.hid hR
          rw [← E.out] at HRR
          clear hy hR E CL HX kg
          generalize A (C k) = av at *
          gi_wp2
          refine HRR.out.mono ?_
          rintro e W' ⟨rfl, hJ', hk'⟩
          have J6 := Lib.hid hJ'
          have K6 := Lib.hid (HKc.out.trans hk')
          clear hJ' hk'
          gi_wp2
          go_roundw
          case rel => exact ⟨k + 1, hlk, by go_num, J6, K6⟩
          case measure => simp [intOf]; omega
        · have n1 : (N : Int) ≤ (k : Int) := by omega
          have EN := Lib.hid (show k = N by omega)
          clear hlk
          gi_wp2
          go_end0
          exact ⟨⟨_, rfl⟩, _, ⟨C, OC.out, by rw [HN.out, ← EN.out, List.map_map]; rfl⟩, HJ.out⟩

end Go.Proofs.YtohcnicadbpbbaaGreatDoor

namespace Go.Proofs.YtohcnicadbpbbaaGreatDoor
open Go.RowKit Go.Firn Go.Shelf Go.Sort
attribute [local go_sem] Oper.semAt_some
attribute [local simp] wide_fn

theorem cuts_any (s t u v : Value) (w : World) :
    Calls Tryz.prog 63 #[.agg #[s, t, u, v]] w fun e w' => e = .returned (.func (.func 78) #[] #[.pointer (some ⟨w.heap.size, 0, none⟩)]) ∧ w' = w.alloc (.cells #[s, t, u, v] 57) := by
  have hmf : ∀ (fn : Fn) (first cap : Array Value) (w : World), (Instr.makeFunc fn first cap).run Tryz.prog w = .ok (.func fn first cap) w := fun _ _ _ _ => rfl
  go_enter Tryz.func63, Tryz.ntmps63
  go_wp2_with fail
  go_ret
  exact ⟨rfl, rfl⟩

/-- A cut, told as a list, in a block of the call's own. -/
def RetC (L : List Nat) (w : World) (e : Ending) (w' : World) : Prop := ∃ a c, e = .returned (.slice a L.length c) ∧ L.length ≤ c ∧ c ≤ maxLen ∧ RdI w' a L.length (nf L) ∧ Gr w w'

/-- What was found so far, in memory. -/
structure Sb (W : World) (b7 b8 b9 : Nat) (v : Value) (fb : Bool) (mb : Int) : Prop where
  c7 : W.cell? ⟨b7, 0, none⟩ = some v
  f7 : W.frozen? ⟨b7, 0, none⟩ = false
  c8 : W.cell? ⟨b8, 0, none⟩ = some (.bool fb)
  f8 : W.frozen? ⟨b8, 0, none⟩ = false
  c9 : W.cell? ⟨b9, 0, none⟩ = some (.int .i64 mb)
  f9 : W.frozen? ⟨b9, 0, none⟩ = false
theorem Sb.gr {W W' : World} {b7 b8 b9 : Nat} {v : Value} {fb : Bool} {mb : Int} (h : Sb W b7 b8 b9 v fb mb) (g : Gr W W') : Sb W' b7 b8 b9 v fb mb :=
  ⟨g.cell h.c7, (Below.frozen g (p := ⟨b7, 0, none⟩) (World.block_lt_of_cell? _ _ h.c7)).trans h.f7, g.cell h.c8, (Below.frozen g (p := ⟨b8, 0, none⟩) (World.block_lt_of_cell? _ _ h.c8)).trans h.f8, g.cell h.c9, (Below.frozen g (p := ⟨b9, 0, none⟩) (World.block_lt_of_cell? _ _ h.c9)).trans h.f9⟩
theorem Sb.own {W W' : World} {b7 b8 b9 : Nat} {v : Value} {fb : Bool} {mb : Int} {row : Option Nat} (h : Sb W b7 b8 b9 v fb mb) (hg : W.grownBy W' row) (hr : ∀ r, row = some r → ∃ o : Obj, W.heap[r]? = some o ∧ o.isCells = false) : Sb W' b7 b8 b9 v fb mb :=
  ⟨cell_kept h.c7 hg hr, (frozen_kept h.c7 hg hr).trans h.f7, cell_kept h.c8 hg hr, (frozen_kept h.c8 hg hr).trans h.f8, cell_kept h.c9 hg hr, (frozen_kept h.c9 hg hr).trans h.f9⟩
theorem LiB.own {W W' : World} {B : Nat} {l : List Nat} {x : Value} {row : Option Nat} (h : LiB W B l x) (hg : W.grownBy W' row) (hr : ∀ r, row = some r → ∃ o : Obj, W.heap[r]? = some o ∧ o.isCells = false) : LiB W' B l x := by
  obtain ⟨a, c, h1, h2, h3, h4⟩ := h
  refine ⟨a, c, h1, h2, h3, h4.imp id ?_⟩
  rintro ⟨b, o, k1, k2, k3⟩
  exact ⟨b, o, k1, k2, fun j hj => cell_kept (k3 j hj) hg hr⟩
/-- What the cells say of what was found. -/
def Fnd (n : Nat) (vf : Nat → Int) (B : Nat) (o : Option Nat) (W : World) (v : Value) (fb : Bool) (mb : Int) : Prop :=
  (o = none ∧ v = .slice none 0 0 ∧ fb = false) ∨ ∃ b, o = some b ∧ fb = true ∧ mb = vf b ∧ LiB W B (cS n b) v
/-- The caller's invariant. -/
def Ib (n : Nat) (P : Nat → Bool) (vf : Nat → Int) (b7 b8 b9 : Nat) (W0 : World) (pre : List (Nat × Value)) (W : World) : Prop :=
  (∃ v fb mb, Sb W b7 b8 b9 v fb mb ∧ Fnd n vf W0.heap.size (foldO P vf (pre.map (·.1))) W v fb mb) ∧ Wx (fun k => k = b7 ∨ k = b8 ∨ k = b9) W0 W
theorem Ib.own (n : Nat) (P : Nat → Bool) (vf : Nat → Int) (b7 b8 b9 : Nat) (W0 : World) : OwnFrom W0.heap.size (Ib n P vf b7 b8 b9 W0) := fun _ _ _ _ hs hg hr => by
  obtain ⟨⟨v, fb, mb, h1, h2⟩, h3⟩ := hs
  have hr2 := fun r e => (hr r e).2
  refine ⟨⟨v, fb, mb, h1.own hg hr2, h2.imp id ?_⟩, h3.own hg (fun r e => (hr r e).1)⟩
  rintro ⟨b, k1, k2, k3, k4⟩
  exact ⟨b, k1, k2, k3, k4.own hg hr2⟩
theorem round_keep {n b7 b8 b9 : Nat} {P : Nat → Bool} {vf : Nat → Int} {W0 W W' : World} {pre : List (Nat × Value)} {x : Nat × Value} {v : Value} {fb : Bool} {mb : Int} (h1 : Sb W b7 b8 b9 v fb mb) (h2 : Fnd n vf W0.heap.size (foldO P vf (pre.map (·.1))) W v fb mb)
    (hX : Wx (fun k => k = b7 ∨ k = b8 ∨ k = b9) W0 W) (hs : foldO P vf ((pre ++ [x]).map (·.1)) = foldO P vf (pre.map (·.1))) (g : Gr W W') :
    KeepsOthers W W' ∧ Kc (fun k => k ≠ b7 ∧ k ≠ b8 ∧ k ≠ b9) W W' ∧ Ib n P vf b7 b8 b9 W0 (pre ++ [x]) W' := by
  refine ⟨Gr.others g, fun p v _ e => g.cell e, ⟨⟨v, fb, mb, h1.gr g, ?_⟩, hX.trans (Wx.of_gr g)⟩⟩
  rw [hs]
  exact h2.imp id fun ⟨b, k1, k2, k3, k4⟩ => ⟨b, k1, k2, k3, k4.gr g⟩
theorem round_take {n b7 b8 b9 : Nat} {P : Nat → Bool} {vf : Nat → Int} {W0 W W2 W' : World} {pre : List (Nat × Value)} {x : Nat × Value} {v : Value} {fb : Bool} {mb : Int} (n1 : b7 ≠ b8) (n2 : b7 ≠ b9) (n3 : b8 ≠ b9) (l1 : b7 < W0.heap.size) (l2 : b8 < W0.heap.size) (l3 : b9 < W0.heap.size) (h1 : Sb W b7 b8 b9 v fb mb) (hx : LiB W W0.heap.size (cS n x.1) x.2)
    (hX : Wx (fun k => k = b7 ∨ k = b8 ∨ k = b9) W0 W) (hs : foldO P vf ((pre ++ [x]).map (·.1)) = some x.1) (g : Gr W W2) (hW' : Gr (((W2.setCell ⟨b7, 0, none⟩ x.2).setCell ⟨b8, 0, none⟩ (.bool true)).setCell ⟨b9, 0, none⟩ (.int .i64 (vf x.1))) W') :
    KeepsOthers W W' ∧ Kc (fun k => k ≠ b7 ∧ k ≠ b8 ∧ k ≠ b9) W W' ∧ Ib n P vf b7 b8 b9 W0 (pre ++ [x]) W' := by
  have hw : Wx (fun k => k = b7 ∨ k = b8 ∨ k = b9) W W' :=
    ((((Wx.of_gr g).set (.inl rfl) 0 _).set (.inr (.inl rfl)) 0 _).set (.inr (.inr rfl)) 0 _).trans (Wx.of_gr hW')
  have hk : KeepsOthers W W' :=
    ((((Gr.others g).trans (KeepsOthers.setCell _ _ _)).trans (KeepsOthers.setCell _ _ _)).trans (KeepsOthers.setCell _ _ _)).trans (Gr.others hW')
  have h2 := h1.gr g
  have kc : Kc (fun k => k ≠ b7 ∧ k ≠ b8 ∧ k ≠ b9) W W' := fun p v hp e => hw.cell e (fun h => h.elim hp.1 fun h => h.elim hp.2.1 hp.2.2)
  have z7 := cell_far (k := 0) (cell_far (k := 0) (cell_near h2.c7 x.2) (Ne.symm n1) (.bool true)) (Ne.symm n2) (.int .i64 (vf x.1))
  have z8 := cell_far (k := 0) (cell_near (cell_far (k := 0) h2.c8 n1 x.2) (.bool true)) (Ne.symm n3) (.int .i64 (vf x.1))
  have z9 := cell_near (cell_far (k := 0) (cell_far (k := 0) h2.c9 n2 x.2) n3 (.bool true)) (.int .i64 (vf x.1))
  refine ⟨hk, kc, ⟨⟨x.2, true, vf x.1, ⟨hW'.cell z7, ?_, hW'.cell z8, ?_, hW'.cell z9, ?_⟩, .inr ⟨x.1, hs, rfl, rfl, hx.kc kc fun k hk => by omega⟩⟩, hX.trans hw⟩⟩
  · rw [Below.frozen hW' (p := ⟨b7, 0, none⟩) (World.block_lt_of_cell? _ _ z7)]
    simpa using h2.f7
  · rw [Below.frozen hW' (p := ⟨b8, 0, none⟩) (World.block_lt_of_cell? _ _ z8)]
    simpa using h2.f8
  · rw [Below.frozen hW' (p := ⟨b9, 0, none⟩) (World.block_lt_of_cell? _ _ z9)]
    simpa using h2.f9

set_option maxHeartbeats 4000000 in
set_option maxRecDepth 100000 in
theorem best_any (a a2 : Option Addr) (n c d : Nat) (x y : Int) (hn : n ≤ 10) (LF WF : FuncId) (lb wb : Array Value) (P : Nat → Bool) (vf : Nat → Int) (w : World) (hT : Tab w)
    (hcl : ∀ (args : Array Value) (wz : World), (callFunc LF args).run Tryz.prog wz = .ok (.enter LF args) wz) (hcw : ∀ (args : Array Value) (wz : World), (callFunc WF args).run Tryz.prog wz = .ok (.enter WF args) wz)
    (hL : ∀ w', Gr w w' → ∀ s, s < 2 ^ n → ∀ av B, LiB w' B (cS n s) av → Calls Tryz.prog LF (#[av] ++ lb) w' (RetB (P s) w'))
    (hW : ∀ w', Gr w w' → ∀ s, s < 2 ^ n → ∀ av B, LiB w' B (cS n s) av → Calls Tryz.prog WF (#[av] ++ wb) w' fun e w'' => e = .returned (.int .i64 (vf s)) ∧ Gr w' w'')
    (h0 : P 0 = true) :
    Calls Tryz.prog 42 #[.agg #[.slice a n c, .slice a2 n d, .int .i64 x, .int .i64 y], .func (.func LF) #[] lb, .func (.func WF) #[] wb] w fun e w' => ∃ b, IsBest (2 ^ n) P vf (cS n) b ∧ RetC (cS n b) w e w' := by
  have HT := Lib.hid hT
  have HLc := Lib.hid hL
  have HWc := Lib.hid hW
  have P0 := Lib.hid h0
  have HC1 := Lib.hid hcl
  have HC2 := Lib.hid hcw
  clear hT hL hW h0 hcl hcw
  refine (callsIn_wide (n := 3)).1 ?_
  refine callsIn_of_wp_marks Tryz.func42 rfl trivial ?_ rfl
  simp only [Tryz.ntmps42, List.size_toArray, List.length_cons, List.length_nil, Nat.reduceAdd, Nat.reduceSub, Array.replicate_succ, Array.replicate_zero, List.push_toArray, List.append_toArray, List.nil_append, List.cons_append]
  gi_wp2_with (gi_at_call 63; refine (callsIn_wide.2 (cuts_any _ _ _ _ _)).mono ?_; rintro e w' ⟨rfl, rfl⟩)
  generalize hW0 : (((((((w.alloc _).alloc _).alloc _).alloc _).alloc _).alloc _).alloc _) = W0
  have S0 : W0.heap.size = w.heap.size + 7 := by rw [← hW0]; simp
  have G0 := Lib.hid (show Gr w W0 by rw [← hW0]; exact (((((((Gr.refl w).alloc _).alloc _).alloc _).alloc _).alloc _).alloc _).alloc _)
  have B4 := Lib.hid (show W0.cell? ⟨w.heap.size + 1, 0, none⟩ = some (.func (.func LF) #[] lb) by rw [← hW0]; exact ((((((Gr.refl _).alloc _).alloc _).alloc _).alloc _).alloc _).fresh' (by simp) rfl |>.1)
  have B5 := Lib.hid (show W0.cell? ⟨w.heap.size + 1 + 1, 0, none⟩ = some (.func (.func WF) #[] wb) by rw [← hW0]; exact (((((Gr.refl _).alloc _).alloc _).alloc _).alloc _).fresh' (by simp) rfl |>.1)
  have B7 := Lib.hid (show W0.cell? ⟨w.heap.size + 1 + 1 + 1, 0, none⟩ = some (.slice none 0 0) ∧ W0.frozen? ⟨w.heap.size + 1 + 1 + 1, 0, none⟩ = false by rw [← hW0]; exact ((((Gr.refl _).alloc _).alloc _).alloc _).fresh' (by simp) rfl)
  have B8 := Lib.hid (show W0.cell? ⟨w.heap.size + 1 + 1 + 1 + 1, 0, none⟩ = some (.bool false) ∧ W0.frozen? ⟨w.heap.size + 1 + 1 + 1 + 1, 0, none⟩ = false by rw [← hW0]; exact (((Gr.refl _).alloc _).alloc _).fresh' (by simp) rfl)
  have B9 := Lib.hid (show W0.cell? ⟨w.heap.size + 1 + 1 + 1 + 1 + 1, 0, none⟩ = some (.int .i64 0) ∧ W0.frozen? ⟨w.heap.size + 1 + 1 + 1 + 1 + 1, 0, none⟩ = false by rw [← hW0]; exact ((Gr.refl _).alloc _).fresh' (by simp) rfl)
  have BX := Lib.hid (show Box4 W0 (w.heap.size + 1 + 1 + 1 + 1 + 1 + 1) (.slice a n c) (.slice a2 n d) (.int .i64 x) (.int .i64 y) by rw [← hW0]; exact Box4.new (by simp))
  clear hW0
  refine rangeFunc_memP rfl (by omega) (gf := 78) (lb := #[.pointer (some ⟨w.heap.size + 1 + 1 + 1 + 1 + 1 + 1, 0, none⟩)]) rfl trivial (enters_of Tryz.func78 (by kernel_rfl) rfl)
    (cuts1_seqP (K := fun k => k ≠ w.heap.size + 1 + 1 + 1 ∧ k ≠ w.heap.size + 1 + 1 + 1 + 1 ∧ k ≠ w.heap.size + 1 + 1 + 1 + 1 + 1) _ (by omega) (w.heap.size + 1 + 1 + 1 + 1 + 1 + 1) n c d a a2 x y W0 hn BX.out (HT.out.gr G0.out) (fun k hk => by omega))
    Kc.trans (fun W l o o' _ h hc _ => Kc.putObj W l o o' h hc) (fun z W l o o' hx h hc => ⟨hx.1, hx.2.kc (Kc.putObj (K := fun _ => True) W l o o' h hc) fun _ _ => trivial⟩) (Below.refl _ _) (fun _ => rfl)
    (Ib n P vf (w.heap.size + 1 + 1 + 1) (w.heap.size + 1 + 1 + 1 + 1) (w.heap.size + 1 + 1 + 1 + 1 + 1) W0) (Ib.own n P vf _ _ _ W0)
    ⟨⟨_, _, _, ⟨B7.out.1, B7.out.2, B8.out.1, B8.out.2, B9.out.1, B9.out.2⟩, .inl ⟨rfl, rfl, rfl⟩⟩, Wx.refl _ _⟩
    (fun z => { tmps := #[.agg #[.slice a n c, .slice a2 n d, .int .i64 x, .int .i64 y], .func (.func LF) #[] lb, .func (.func WF) #[] wb, .pointer (some ⟨w.heap.size, 0, none⟩), .pointer (some ⟨w.heap.size + 1, 0, none⟩), .pointer (some ⟨w.heap.size + 1 + 1, 0, none⟩), .slice none 0 0, .pointer (some ⟨w.heap.size + 1 + 1 + 1, 0, none⟩), .pointer (some ⟨w.heap.size + 1 + 1 + 1 + 1, 0, none⟩), .pointer (some ⟨w.heap.size + 1 + 1 + 1 + 1 + 1, 0, none⟩), z.2, undef, .agg #[.slice a n c, .slice a2 n d, .int .i64 x, .int .i64 y], .func (.func 78) #[] #[.pointer (some ⟨w.heap.size + 1 + 1 + 1 + 1 + 1 + 1, 0, none⟩)], z.2, undef, undef, undef, undef, undef, undef, undef, undef, undef, undef, undef, undef, undef, undef, undef, undef, undef], defers := [] }) ?assign ?body ?done
  case assign =>
    intro l z W K hK
    unfold encC
    gi_wp2
    exact hK
  case body =>
    rintro l pre ⟨zs, zv⟩ W _ ⟨⟨v, fb, mb, hs, hf⟩, hX⟩ hz
    obtain ⟨az, cz, ez, _, _, _⟩ := hz.2.rd
    dsimp only at ez
    subst ez
    dsimp only
    have GW := Lib.hid (hX.gr G0.out (fun k hk => by omega))
    have b4 := hX.cell B4.out (by simp)
    have b5 := hX.cell B5.out (by simp)
    have CL := Lib.hid (HLc.out W GW.out zs hz.1 _ _ hz.2)
    have CW := Lib.hid (fun w' (g : Gr W w') => HWc.out w' (GW.out.trans g) zs hz.1 _ _ (hz.2.gr g))
    have WX := Lib.hid hX
    have HS := Lib.hid hs
    have HF := Lib.hid hf
    have HZ := Lib.hid hz.2
    have SN := Lib.hid (show foldO P vf ((pre ++ [(zs, Value.slice az (cS n zs).length cz)]).map (·.1)) = stepO P vf (foldO P vf (pre.map (·.1))) zs by rw [List.map_append]; exact foldO_snoc P vf _ _)
    have hcl := HC1.out
    have hcw := HC2.out
    clear hX hs hf hz
    cases hP : P zs with
    | false =>
      rw [hP] at CL
      have SK := Lib.hid (show foldO P vf ((pre ++ [(zs, Value.slice az (cS n zs).length cz)]).map (·.1)) = foldO P vf (pre.map (·.1)) by
        rw [SN.out]
        unfold stepO
        cases foldO P vf (pre.map (·.1)) <;> simp [hP])
      clear hP
      gi_wp2
      refine (CallsIn.inRound l (callsIn_wide.2 CL.out)).mono ?_
      rintro e w2 ⟨rfl, g2⟩
      have G2 := Lib.hid g2
      clear g2
      gi_wp2
      exact round_keep HS.out HF.out WX.out SK.out G2.out
    | true =>
      rw [hP] at CL
      rcases HF.out with ⟨eo, rfl, rfl⟩ | ⟨b, eo, rfl, rfl, hb⟩
      · have ST := Lib.hid (show foldO P vf ((pre ++ [(zs, Value.slice az (cS n zs).length cz)]).map (·.1)) = some zs by rw [SN.out, eo]; unfold stepO; simp [hP])
        clear hP eo
        gi_wp2
        refine (CallsIn.inRound l (callsIn_wide.2 CL.out)).mono ?_
        rintro e w2 ⟨rfl, g2⟩
        have G2 := Lib.hid g2
        have b5' := g2.cell b5
        clear g2
        gi_wp2
        refine (CallsIn.inRound l (callsIn_wide.2 (CW.out _ G2.out))).mono ?_
        rintro e w3 ⟨rfl, g3⟩
        have G3 := Lib.hid (G2.out.trans g3)
        clear g3
        obtain ⟨c7, f7, c8, f8, c9, f9⟩ := HS.out.gr G3.out
        gi_wp2
        exact round_take (x := (zs, _)) (by omega) (by omega) (by omega) (by omega) (by omega) (by omega) HS.out HZ.out WX.out ST.out G3.out (by first | exact Gr.refl _ | exact (Gr.refl _).drew)
      · by_cases hlt : vf b < vf zs
        · have ST := Lib.hid (show foldO P vf ((pre ++ [(zs, Value.slice az (cS n zs).length cz)]).map (·.1)) = some zs by rw [SN.out, eo]; unfold stepO; simp [hP, hlt])
          have hgt : vf zs > vf b := hlt
          clear hP eo hb
          gi_wp2
          refine (CallsIn.inRound l (callsIn_wide.2 CL.out)).mono ?_
          rintro e w2 ⟨rfl, g2⟩
          have G2 := Lib.hid g2
          have b5' := g2.cell b5
          clear g2
          gi_wp2
          refine (CallsIn.inRound l (callsIn_wide.2 (CW.out _ G2.out))).mono ?_
          rintro e w3 ⟨rfl, g3⟩
          have G3 := Lib.hid (G2.out.trans g3)
          clear g3
          obtain ⟨c7, f7, c8, f8, c9, f9⟩ := HS.out.gr G3.out
          gi_wp2
          exact round_take (x := (zs, _)) (by omega) (by omega) (by omega) (by omega) (by omega) (by omega) HS.out HZ.out WX.out ST.out G3.out (by first | exact Gr.refl _ | exact (Gr.refl _).drew)
        · have SK := Lib.hid (show foldO P vf ((pre ++ [(zs, Value.slice az (cS n zs).length cz)]).map (·.1)) = foldO P vf (pre.map (·.1)) by rw [SN.out, eo]; unfold stepO; simp [hlt])
          have hgt : ¬ vf zs > vf b := hlt
          clear hP eo hb
          gi_wp2
          refine (CallsIn.inRound l (callsIn_wide.2 CL.out)).mono ?_
          rintro e w2 ⟨rfl, g2⟩
          have G2 := Lib.hid g2
          have b5' := g2.cell b5
          clear g2
          gi_wp2
          refine (CallsIn.inRound l (callsIn_wide.2 (CW.out _ G2.out))).mono ?_
          rintro e w3 ⟨rfl, g3⟩
          have G3 := Lib.hid (G2.out.trans g3)
          clear g3
          obtain ⟨c7, f7, c8, f8, c9, f9⟩ := HS.out.gr G3.out
          gi_wp2
          exact round_keep HS.out HF.out WX.out SK.out (by first | exact G3.out | exact G3.out.drew)
  case done =>
    rintro D xs W hD ⟨C, oc, ex⟩ ⟨⟨v, fb, mb, hs, hf⟩, hX⟩ hK
    have hpos := Nat.two_pow_pos n
    obtain ⟨b, eb, ib⟩ := foldO_best (M := 2 ^ n) (P := P) (v := vf) (L := cS n) oc.up oc.all P0.out hpos
    rw [ex, eb] at hf
    have GW := Lib.hid (hX.gr G0.out (fun k hk => by omega))
    have c7 := hs.c7
    have HK := Lib.hid hK
    rcases hf with ⟨h1, _⟩ | ⟨b', h1, _, _, h2⟩
    · cases h1
    · cases h1
      have gp := grownBy_putObj' W D (.deferred none)
      have kp : ∀ r, some D = some r → ∃ o : Obj, W.heap[r]? = some o ∧ o.isCells = false := fun r er => by cases er; exact ⟨_, hK, rfl⟩
      have HL2 := Lib.hid (h2.own gp kp)
      have GP := Lib.hid (GW.out.grown gp (fun k er => by cases er; omega))
      have IB := Lib.hid ib
      clear hs hX hK h2 gp kp ib eb ex oc
      gi_wp2
      refine ⟨by simp, .inl ⟨_, _, rfl, run_takeDeferred HK.out, ?_⟩⟩
      obtain ⟨av, cv, rfl, m1, m2, m3⟩ := HL2.out.rd
      exact ⟨_, by simp [results, Tryz.f42, go_sem], b, IB.out, av, cv, rfl, m1, m2, m3, GP.out⟩
end Go.Proofs.YtohcnicadbpbbaaGreatDoor
