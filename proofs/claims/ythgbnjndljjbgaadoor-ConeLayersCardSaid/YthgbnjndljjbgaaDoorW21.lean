/- Contracts of chapter 2: the list of a set and the first hits, with where the result lies. -/
import Derived.Test.YthgbnjndljjbgaaDoorW20
import Derived.Test.YthgbnjndljjbgaaDoorCory
namespace Go.Proofs.YthgbnjndljjbgaaDoor
open Go.RowKit Go.Firn

/-- A slice of ints that holds these numbers, in a new block. -/
def RetLF (l : List Nat) (w : World) (e : Ending) (w' : World) : Prop :=
  ∃ a c, e = .returned (.slice a l.length c) ∧ l.length ≤ c ∧ c ≤ maxLen ∧ RdI w' a l.length (nf l) ∧ Gr w w' ∧ (l.length = 0 ∨ ∃ b o, a = some ⟨b, o, none⟩ ∧ b < w'.heap.size ∧ w.heap.size ≤ b)

theorem list_f (x : Nat) (w : World) (hx : x < 65536) (hT : Tab w) : Calls Tryd.prog 70 #[.int .u16 x] w (RetLF (els x.testBit 16) w) := by
  have HX := Lib.hid hx
  clear hx
  have HL := Lib.hid (show (els x.testBit 16).length ≤ 16 by rw [els_length]; exact cnt_le _ _)
  have HD := Lib.hid (show els x.testBit 16 = (els x.testBit 16).drop 0 from rfl)
  go_enter Tryd.func70, Tryd.ntmps70
  go_wp2
  go_loopw [0, 3] (fun s v wr => ∃ (y k : Nat), s = .int .u16 y ∧ Hid (y < 65536) ∧ Hid (k ≤ (els x.testBit 16).length) ∧ Hid (els y.testBit 16 = (els x.testBit 16).drop k) ∧ OwnI w 3 wr v k (nf (els x.testBit 16))) (fun s _ _ => (intOf s).toNat)
  case atStart => exact ⟨x, 0, rfl, HX, Nat.zero_le _, HD.out, OwnI.nil w 3 _⟩
  case round =>
    obtain ⟨y, k, rfl, hy, hk, hd, hown⟩ := hrel
    by_cases h0 : y = 0
    · subst h0
      have e1 : k = (els x.testBit 16).length := by
        have h1 := hd.out
        rw [els_nil] at h1
        have h2 := congrArg List.length h1
        have h3 := hk.out
        simp at h2
        omega
      go_wp2
      go_ret
      subst e1
      obtain ⟨a, c, rfl, h1, h2, h3, h4⟩ := hown.rdF
      exact ⟨a, c, rfl, h1, h2, h3, hown.2, h4⟩
    · have t1 : ((y : Int) != 0) = true := by simp; omega
      have st := els_step h0 (n := 16) hy.out
      rw [hd.out] at st
      have hlt : k < (els x.testBit 16).length := by
        rcases Nat.lt_or_ge k (els x.testBit 16).length with h | h
        · exact h
        · rw [List.drop_eq_nil_of_le h] at st; cases st
      have E := Lib.hid (show nf (els x.testBit 16) k = (Lib.ctz 16 y : Nat) by
        have := congrArg (fun l => l.getD 0 0) st
        simp [List.getD] at this
        simp [nf, List.getD, this])
      have D := Lib.hid (show els (y &&& (y - 1)).testBit 16 = (els x.testBit 16).drop (k + 1) by
        have := congrArg List.tail st
        simp at this
        exact this.symm)
      have K := Lib.hid (show k < 1000000000 by have := HL.out; omega)
      have w1 : IntKind.u16.wrap ((y : Int) - 1) = ((y - 1 : Nat) : Int) := by have := hy.out; rw [IntKind.wrap_u16]; omega
      have w2 : bits BinOp.and IntKind.u16 (y : Int) (IntKind.u16.wrap ((y : Int) - 1)) = ((y &&& (y - 1) : Nat) : Int) := by have := hy.out; rw [w1, u16_and_nat y _ (by omega) (by omega)]
      have Y := Lib.hid (show y &&& (y - 1) < 65536 from Nat.lt_of_le_of_lt Nat.and_le_left hy.out)
      have M := Lib.hid (and_pred_lt h0)
      clear w1 st
      have hlt' := Lib.hid hlt
      clear hlt
      go_wp2_with (first
        | (go_at_call 101; refine (tz_any y _ h0 hy.out (hT.gr hown.2)).mono ?_; rintro e w1 ⟨rfl, rfl⟩)
        | (at_builtin; go_must (refine wpList_app_int rfl _ _ 23 3 rfl Tryd.underlying23 Tryd.info3 _ k _ rfl (hown.alloc _) _ _ rfl (cell_new1 _ _ _) E.out K.out ?_); intro v1 w1 hown1 _))
      go_roundw
      case rel => exact ⟨y &&& (y - 1), k + 1, rfl, Y, hlt'.out, D, hown1⟩
      case measure => have := M.out; simp [intOf]; omega

set_option maxHeartbeats 1000000 in
theorem first_f (adr : Option Addr) (n c : Nat) (P T : Nat → Int) (V : VH n P T) (bk cc : Nat) (left : Nat → Bool) (w : World) (hh : RdM w adr n P T) (hr : RowG w bk n (bV left)) :
    Calls Tryd.prog 76 #[.slice adr n c, .slice (some ⟨bk, 0, none⟩) n cc] w (RetLF (firstL n P T left) w) := by
  have hn := V.few
  have HV := Lib.hid V
  have HH := Lib.hid hh
  have HR := Lib.hid hr
  unfold firstL
  clear V hh hr
  go_enter Tryd.func76, Tryd.ntmps76
  go_wp2
  go_loopw [5, 6] (fun v s wr => ∃ k : Nat, k ≤ n ∧ s = .int .i64 k ∧ OwnI w 3 wr v (els (frB n P T left) k).length (nf (els (frB n P T left) n))) (fun _ s _ => n - (intOf s).toNat)
  case atStart => exact ⟨0, Nat.zero_le _, rfl, OwnI.nil w 3 _⟩
  case round =>
    obtain ⟨k, hk, rfl, hown⟩ := hrel
    by_cases hlt : k < n
    · have lk := (((HR.out.gr hown.2)) k hlt).1
      unfold bV at lk
      have k1 : (k : Int) < (n : Int) := by omega
      have J0 := Lib.hid (frJ_zero P T left k)
      go_wp2_with fail
      go_loopw [7, 8] (fun v7 s wx => ∃ j : Nat, j ≤ n ∧ s = .int .i64 j ∧ v7 = .bool (frJ P T left k j) ∧ Hid (Gr wr wx)) (fun _ s _ => n - (intOf s).toNat)
      case atStart => exact ⟨0, Nat.zero_le _, rfl, by rw [J0.out], Gr.refl _⟩
      case round =>
        obtain ⟨j, hj, rfl, rfl, hg⟩ := hrel
        clear lk
        by_cases hl2 : j < n
        · have FS := Lib.hid (frJ_succ P T left k j)
          have j1 : (j : Int) < (n : Int) := by omega
          cases hf : frJ P T left k j with
          | false =>
            have F2 := Lib.hid (show frJ P T left k (j + 1) = false by rw [FS.out, hf]; rfl)
            clear hf
            go_wp2_with fail
            go_roundw
            case rel => exact ⟨j + 1, hl2, by go_num, by rw [F2.out], hg⟩
            case measure => simp [intOf]; omega
          | true =>
            have lj := (((HR.out.gr hown.2).gr hg.out) j hl2).1
            unfold bV at lj
            cases hL : left j with
            | false =>
              have F2 := Lib.hid (show frJ P T left k (j + 1) = true by rw [FS.out, hf, hL]; rfl)
              rw [hL] at lj
              clear hf hL
              go_wp2_with fail
              go_roundw
              case rel => exact ⟨j + 1, hl2, by go_num, by rw [F2.out], hg⟩
              case measure => simp [intOf]; omega
            | true =>
              rw [hL] at lj
              have C := Lib.hid (fun w' hr => before_b adr n c P T w' HV.out j k hl2 hlt hr)
              cases hb : bf P T j k with
              | false =>
                have F2 := Lib.hid (show frJ P T left k (j + 1) = true by rw [FS.out, hf, hL, hb]; rfl)
                rw [hb] at C
                clear hf hL hb
                go_wp2_with (go_at_call 60; refine (C.out _ ((HH.out.gr hown.2).gr hg.out)).mono ?_; rintro e w2 ⟨rfl, g2⟩)
                go_roundw
                case rel => exact ⟨j + 1, hl2, by go_num, by rw [F2.out], hg.out.trans g2⟩
                case measure => simp [intOf]; omega
              | true =>
                have F2 := Lib.hid (show frJ P T left k (j + 1) = false by rw [FS.out, hf, hL, hb]; rfl)
                rw [hb] at C
                clear hf hL hb
                go_wp2_with (go_at_call 60; refine (C.out _ ((HH.out.gr hown.2).gr hg.out)).mono ?_; rintro e w2 ⟨rfl, g2⟩)
                go_roundw
                case rel => exact ⟨j + 1, hl2, by go_num, by rw [F2.out], hg.out.trans g2⟩
                case measure => simp [intOf]; omega
        · obtain rfl : j = n := by omega
          rw [frJ_end]
          have ow := hown.gr hg.out
          cases hb : frB j P T left k with
          | true =>
            have E := Lib.hid (nf_at (p := frB j P T left) hlt hb)
            have S := Lib.hid (show (els (frB j P T left) (k + 1)).length = (els (frB j P T left) k).length + 1 by rw [els_succ]; simp [hb])
            have K := Lib.hid (show (els (frB j P T left) k).length < 1000000000 by have := cnt_le (frB j P T left) k; rw [els_length]; omega)
            clear hb
            go_wp2_with (at_builtin; go_must (refine wpList_app_int rfl _ _ 23 3 rfl Tryd.underlying23 Tryd.info3 _ _ _ rfl (ow.alloc _) _ _ rfl (cell_new1 _ _ _) E.out K.out ?_); intro v1 w1 hown1 _)
            go_roundw
            case rel => exact ⟨k + 1, hlt, by go_num, by rw [S.out]; exact hown1⟩
            case measure => simp [intOf]; omega
          | false =>
            have S := Lib.hid (show els (frB j P T left) (k + 1) = els (frB j P T left) k by rw [els_succ]; simp [hb])
            clear hb
            go_wp2_with fail
            go_roundw
            case rel => exact ⟨k + 1, hlt, by go_num, by rw [S.out]; exact ow⟩
            case measure => simp [intOf]; omega
    · obtain rfl : k = n := by omega
      go_wp2_with fail
      go_ret
      obtain ⟨a, c, rfl, h1, h2, h3, h4⟩ := hown.rdF
      exact ⟨a, c, rfl, h1, h2, h3, hown.2, h4⟩

end Go.Proofs.YthgbnjndljjbgaaDoor
