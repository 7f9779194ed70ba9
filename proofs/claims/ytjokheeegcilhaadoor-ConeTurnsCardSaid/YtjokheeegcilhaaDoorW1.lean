/- Contracts of the small functions of chapter 2: between, within, the bits of a set, how many they are, and their list. -/
import Derived.Test.YtjokheeegcilhaaDoorRows
import Derived.Test.YtjokheeegcilhaaDoorCorn
import Derived.Test.YtjokheeegcilhaaDoorPA
import Derived.WalkKit
import Derived.WalkSpells
import Derived.WalkLawsBesides
import Derived.Deep.QuietTactic
import Derived.BigQuiet
import Derived.BigRegion
import Derived.Lib.Hide
import Derived.Lib.TrailingZeros
import Derived.Laws.BitsAllLaws
namespace Go.Proofs.YtjokheeegcilhaaDoor
open Go.RowKit Go.Firn

def btw (a n b : Int) : Bool := decide (a ≤ n) && decide (n ≤ b)

theorem between_any (a n b : Int) (w : World) :
    Calls Tryd.prog 71 #[.int .i64 a, .int .i64 n, .int .i64 b] w fun e w' => e = .returned (.bool (btw a n b)) ∧ w = w' := by
  by_cases h1 : a ≤ n
  · have e : btw a n b = decide (n ≤ b) := by simp [btw, h1]
    go_enter Tryd.func71, Tryd.ntmps71
    go_wp2
    go_ret
    simp [e]
  · have e : btw a n b = false := by simp [btw, h1]
    have e' := Lib.hid e; clear e
    go_enter Tryd.func71, Tryd.ntmps71
    go_wp2
    go_ret
    simp [e'.out]

theorem within_any (a n b : Int) (w : World) :
    Calls Tryd.prog 72 #[.int .i64 a, .int .i64 n, .int .i64 b] w fun e w' => e = .returned (.bool (btw a n b)) ∧ w = w' := by
  by_cases h1 : a ≤ n
  · have e : btw a n b = decide (n ≤ b) := by simp [btw, h1]
    go_enter Tryd.func72, Tryd.ntmps72
    go_wp2
    go_ret
    simp [e]
  · have e : btw a n b = false := by simp [btw, h1]
    have e' := Lib.hid e; clear e
    go_enter Tryd.func72, Tryd.ntmps72
    go_wp2
    go_ret
    simp [e'.out]

/-- The table of the library, in its variable. -/
def Tab (w : World) : Prop := ∀ j, j < 32 → w.cell? ⟨0, j, none⟩ = some (.int .u8 (Lib.deBruijn32tab.getD j 0))
theorem Tab.gr {w w' : World} (h : Tab w) (g : Gr w w') : Tab w' := fun j hj => g.cell (h j hj)

theorem tz16_key (x a : Nat) (hx : x < 65536) (hx0 : x ≠ 0) (hlow : x &&& (65536 - x) = a) : bits BinOp.and IntKind.u16 (x : Int) (IntKind.u16.wrap (-(x : Int))) = (a : Int) := by
  have e1 : IntKind.u16.wrap (-(x : Int)) = ((65536 - x : Nat) : Int) := by rw [IntKind.wrap_u16]; omega
  rw [e1, u16_and_nat x _ hx (by omega), hlow]

theorem tz_any (x : Nat) (w : World) (hx0 : x ≠ 0) (hx : x < 65536) (hT : Tab w) :
    Calls Tryd.prog 101 #[.int .u16 x] w fun e w' => e = .returned (.int .i64 (Lib.ctz 16 x)) ∧ w = w' := by
  obtain ⟨hlow, hk⟩ := Lib.lowest_bit 16 x hx0 hx
  obtain ⟨hi, htab⟩ := Lib.deBruijn32_at (Lib.ctz 16 x) (by omega)
  have hcell := hT _ hi
  rw [htab] at hcell
  have key := tz16_key x _ hx hx0 hlow
  have b0 : ((x : Int) == 0) = false := by simp; omega
  have lt := Nat.pow_lt_pow_right (a := 2) (by omega) hk
  clear htab hlow
  generalize Lib.ctz 16 x = k at hcell hk hi key lt ⊢
  generalize 2 ^ k = a at hcell hi key lt
  go_enter Tryd.func101, Tryd.ntmps101
  go_wp2_with (simp only [key])
  go_ret
  exact ⟨rfl, rfl⟩

theorem cnt_split (x : Nat) : cnt x.testBit 16 = cnt (x % 256).testBit 8 + cnt (x / 256).testBit 8 := by
  rw [show 16 = 8 + 8 from rfl, cnt_add]
  congr 1
  · refine cnt_congr fun i hi => ?_
    rw [show 256 = 2 ^ 8 from rfl, Nat.testBit_mod_two_pow]; simp [hi]
  · refine cnt_congr fun i _ => ?_
    rw [show 256 = 2 ^ 8 from rfl, Nat.testBit_div_two_pow, Nat.add_comm]

set_option maxRecDepth 100000 in
theorem pop_any (x : Nat) (w : World) (hx : x < 65536) :
    Calls Tryd.prog 113 #[.int .u16 x] w fun e w' => e = .returned (.int .i64 (cnt x.testBit 16)) ∧ ∃ m, w' = w.drewN m := by
  have e1 : IntKind.u16.wrap ((x : Int) / 256) = (x : Int) / 256 := IntWalk.u16_in _ (by omega)
  have e2 : bits BinOp.and IntKind.u16 (x : Int) 255 = ((x % 256 : Nat) : Int) := by
    rw [show (255 : Int) = ((255 : Nat) : Int) from rfl, u16_and_nat x 255 hx (by omega), show (255 : Nat) = 2 ^ 8 - 1 from rfl, Nat.and_two_pow_sub_one_eq_mod]
  go_enter Tryd.func113, Tryd.ntmps113
  go_wp2
  generalize hS : ByteArray.mk _ = S
  have hz : S.size = 256 := by rw [← hS]; decide +kernel
  have ht : ∀ i : Fin 256, (S[i.val]?.getD 0).toNat = cnt i.val.testBit 8 := by rw [← hS]; decide +kernel
  clear hS
  have u9 : Tryd.prog.underlying 9 = some .string := by kernel_rfl
  have look : ∀ (i : Nat) (w : World), i < 256 → (Instr.index 9 (.string S) (.int .u16 (i : Int))).run Tryd.prog w = .ok (.int .u8 (cnt i.testBit 8 : Nat)) w := fun i w hi => by
    rw [run_index_string _ _ _ _ _ u9, dif_pos (by omega)]
    have h2 : i < S.size := by omega
    have := ht ⟨i, hi⟩
    rw [ByteArray.getElem?_lt' S _ h2] at this
    rw [← this]
    simp
  have h1 : x / 256 < 256 := by omega
  have h2 : x % 256 < 256 := by omega
  have l1 : ∀ w : World, (Instr.index 9 (.string S) (.int .u16 ((x : Int) / 256))).run Tryd.prog w = .ok (.int .u8 (cnt (x / 256).testBit 8 : Nat)) w := fun w => look (x / 256) w h1
  have l2 : ∀ w : World, (Instr.index 9 (.string S) (.int .u16 ((x : Int) % 256))).run Tryd.prog w = .ok (.int .u8 (cnt (x % 256).testBit 8 : Nat)) w := fun w => by
    have := look (x % 256) w h2
    rwa [Int.natCast_emod] at this
  have hc := cnt_split x
  have c1 := cnt_le (x / 256).testBit 8
  have c2 := cnt_le (x % 256).testBit 8
  clear ht look
  generalize cnt (x / 256).testBit 8 = A at l1 c1 hc
  generalize cnt (x % 256).testBit 8 = B at l2 c2 hc
  have HC := Lib.hid hc
  clear hc
  have e3 : IntKind.u8.wrap ((A : Int) + (B : Int)) = (A : Int) + (B : Int) := by rw [IntKind.wrap_u8']; omega
  have e4 : IntKind.i64.wrap ((A : Int) + (B : Int)) = (A : Int) + (B : Int) := IntWalk.i64_in _ (by omega)
  go_quiet (fail)
  go_wp2
  go_ret
  refine ⟨?_, _, rfl⟩
  rw [HC.out, Int.natCast_add, Int.add_comm]
  rfl

theorem size_any (x : Nat) (w : World) (hx : x < 65536) :
    Calls Tryd.prog 100 #[.int .u16 x] w fun e w' => e = .returned (.int .i64 (cnt x.testBit 16)) ∧ ∃ m, w' = w.drewN m := by
  go_enter Tryd.func100, Tryd.ntmps100
  go_wp2_with (go_at_call 113; refine (pop_any x _ hx).mono ?_; rintro e w1 ⟨rfl, h1⟩)
  go_ret
  exact ⟨rfl, h1⟩

theorem Tryd.info3 : (Tryd.prog.info? 3).map (fun i => (i.zero, i.size, i.bytes)) = some (some (.int .i64 0), 1, 8) := by kernel_rfl

/-- A list of small numbers, read by index. -/
def nf (l : List Nat) (i : Nat) : Int := ((l.getD i 0 : Nat) : Int)
/-- A slice of ints that holds these numbers. -/
def RetL (l : List Nat) (w : World) (e : Ending) (w' : World) : Prop :=
  ∃ a c, e = .returned (.slice a l.length c) ∧ l.length ≤ c ∧ c ≤ maxLen ∧ RdI w' a l.length (nf l) ∧ Gr w w'

theorem list_any (x : Nat) (w : World) (hx : x < 65536) (hT : Tab w) : Calls Tryd.prog 70 #[.int .u16 x] w (RetL (els x.testBit 16) w) := by
  have HX := Lib.hid hx
  clear hx
  have HL := Lib.hid (show (els x.testBit 16).length ≤ 16 by rw [els_length]; exact cnt_le _ _)
  have HD := Lib.hid (show els x.testBit 16 = (els x.testBit 16).drop 0 from rfl)
  go_enter Tryd.func70, Tryd.ntmps70
  go_wp2
  go_loopw [0, 3] (fun s v wr => ∃ (y k : Nat), s = .int .u16 y ∧ Hid (y < 65536) ∧ Hid (k ≤ (els x.testBit 16).length) ∧ Hid (els y.testBit 16 = (els x.testBit 16).drop k) ∧ OwnI w 3 wr v k (nf (els x.testBit 16))) (fun s _ _ => (intOf s).toNat)
  case atStart => exact ⟨x, 0, rfl, HX, Nat.zero_le _, HD.out, OwnI.nil w 3 _⟩
  case round =>
    obtain ⟨y, k, rfl, hy, hk, hd, hown⟩ := hrel
    by_cases h0 : y = 0
    · subst h0
      have e1 : k = (els x.testBit 16).length := by
        have h1 := hd.out
        rw [els_nil] at h1
        have h2 := congrArg List.length h1
        have h3 := hk.out
        simp at h2
        omega
      go_wp2
      go_ret
      subst e1
      obtain ⟨a, c, rfl, h1, h2, h3⟩ := hown.rd
      exact ⟨a, c, rfl, h1, h2, h3, hown.2⟩
    · have t1 : ((y : Int) != 0) = true := by simp; omega
      have st := els_step h0 (n := 16) hy.out
      rw [hd.out] at st
      have hlt : k < (els x.testBit 16).length := by
        rcases Nat.lt_or_ge k (els x.testBit 16).length with h | h
        · exact h
        · rw [List.drop_eq_nil_of_le h] at st; cases st
      have E := Lib.hid (show nf (els x.testBit 16) k = (Lib.ctz 16 y : Nat) by
        have := congrArg (fun l => l.getD 0 0) st
        simp [List.getD] at this
        simp [nf, List.getD, this])
      have D := Lib.hid (show els (y &&& (y - 1)).testBit 16 = (els x.testBit 16).drop (k + 1) by
        have := congrArg List.tail st
        simp at this
        exact this.symm)
      have K := Lib.hid (show k < 1000000000 by have := HL.out; omega)
      have w1 : IntKind.u16.wrap ((y : Int) - 1) = ((y - 1 : Nat) : Int) := by have := hy.out; rw [IntKind.wrap_u16]; omega
      have w2 : bits BinOp.and IntKind.u16 (y : Int) (IntKind.u16.wrap ((y : Int) - 1)) = ((y &&& (y - 1) : Nat) : Int) := by have := hy.out; rw [w1, u16_and_nat y _ (by omega) (by omega)]
      have Y := Lib.hid (show y &&& (y - 1) < 65536 from Nat.lt_of_le_of_lt Nat.and_le_left hy.out)
      have M := Lib.hid (and_pred_lt h0)
      clear w1 st
      have hlt' := Lib.hid hlt
      clear hlt
      go_wp2_with (first
        | (go_at_call 101; refine (tz_any y _ h0 hy.out (hT.gr hown.2)).mono ?_; rintro e w1 ⟨rfl, rfl⟩)
        | (at_builtin; go_must (refine wpList_app_int rfl _ _ 23 3 rfl Tryd.underlying23 Tryd.info3 _ k _ rfl (hown.alloc _) _ _ rfl (cell_new1 _ _ _) E.out K.out ?_); intro v1 w1 hown1 _))
      go_roundw
      case rel => exact ⟨y &&& (y - 1), k + 1, rfl, Y, hlt'.out, D, hown1⟩
      case measure => have := M.out; simp [intOf]; omega

end Go.Proofs.YtjokheeegcilhaaDoor
