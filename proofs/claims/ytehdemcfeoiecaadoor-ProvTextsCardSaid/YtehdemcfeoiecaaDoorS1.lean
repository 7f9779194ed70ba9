/- The library's sort at bytes: insertion sort. -/
import Derived.Test.YtehdemcfeoiecaaDoorS0
import Derived.Test.YtehdemcfeoiecaaDoorW1
import Derived.Deep.QuietTactic
import Derived.BigQuiet
import Derived.BigRegion
import Derived.Deep.DeepCutAuto
import Derived.Deep.RegionHeld3
namespace Go.Proofs.YtehdemcfeoiecaaDoor
open Go.RowKit Go.Firn Go.Sort

theorem insInner_stop {a j : Nat} {d : Array Int} (h : j ≤ a) : insInner ltInt a j d = d := by
  cases j with
  | zero => rfl
  | succ j => unfold insInner; rw [decide_eq_false (by omega)]; rfl
theorem insInner_not {a j : Nat} {d : Array Int} (h : ¬ d[j + 1]! < d[j]!) : insInner ltInt a (j + 1) d = d := by
  unfold insInner ltInt; rw [decide_eq_false h, Bool.and_false]; rfl
theorem insInner_go {a j : Nat} {d : Array Int} (h1 : a < j + 1) (h : d[j + 1]! < d[j]!) : insInner ltInt a (j + 1) d = insInner ltInt a j (swp d (j + 1) j) := by
  conv => lhs; unfold insInner ltInt
  rw [decide_eq_true h, decide_eq_true h1]; rfl
theorem insOuter_go {a b i : Nat} {d : Array Int} (h : i < b) : insOuter ltInt a b i d = insOuter ltInt a b (i + 1) (insInner ltInt a i d) := by
  conv => lhs; unfold insOuter
  rw [if_pos h]
theorem insOuter_end {a b i : Nat} {d : Array Int} (h : ¬ i < b) : insOuter ltInt a b i d = d := by
  unfold insOuter; rw [if_neg h]

set_option maxRecDepth 100000 in
set_option maxHeartbeats 8000000 in
theorem insSort_any (b cap n a0 b0 : Nat) (d : Array Int) (w : World) (hd : d.size = n) (hn : n ≤ 1000000) (hab : a0 ≤ b0) (hb : b0 ≤ n) (hw : RowB w b d) :
    Calls Tryd.prog 96 #[.slice (some ⟨b, 0, none⟩) n cap, .int .i64 a0, .int .i64 b0] w (RetW b (insertionSort ltInt d a0 b0) w) := by
  have HW := Lib.hid hw
  have HD := Lib.hid hd
  have s1 : IntKind.i64.wrap ((a0 : Int) + 1) = ((a0 + 1 : Nat) : Int) := by rw [IntWalk.i64_in _ (by omega)]; omega
  clear hw hd
  go_enter Tryd.func96, Tryd.ntmps96
  go_wp2_with fail
  go_loopw [6] (fun i wr => ∃ (k : Nat) (d1 : Array Int), i = .int .i64 k ∧ Hid (a0 + 1 ≤ k) ∧ Hid (k ≤ b0 ∨ k = a0 + 1) ∧ Hid (Wr b w wr) ∧ Hid (RowB wr b d1) ∧ Hid (d1.size = n) ∧ Hid (insOuter ltInt a0 b0 k d1 = insertionSort ltInt d a0 b0)) (fun i _ => b0 - (intOf i).toNat)
  case atStart => exact ⟨a0 + 1, d, by simp, Lib.hid (Nat.le_refl _), Lib.hid (.inr rfl), Lib.hid (Wr.refl _ _), HW, HD, Lib.hid rfl⟩
  case round =>
    clear s1
    obtain ⟨k, d1, rfl, hk1, hk, HW1, HR1, HD1, HE1⟩ := hrel
    by_cases hlk : k < b0
    · have hlki : (k : Int) < (b0 : Int) := by omega
      go_wp2_with fail
      go_loopw [7] (fun j wr' => ∃ (J : Nat) (d2 : Array Int), j = .int .i64 J ∧ Hid (J ≤ k) ∧ Hid (a0 ≤ J) ∧ Hid (Wr b w wr') ∧ Hid (RowB wr' b d2) ∧ Hid (d2.size = n) ∧ Hid (insInner ltInt a0 J d2 = insInner ltInt a0 k d1)) (fun j _ => (intOf j).toNat)
      case atStart => exact ⟨k, d1, rfl, Lib.hid (Nat.le_refl _), Lib.hid (by have := hk1.out; omega), HW1, HR1, HD1, Lib.hid rfl⟩
      case round =>
        clear HW1 HR1 HD1
        obtain ⟨J, d2, rfl, hJ, hJa, HW2, HR2, HD2, HE2⟩ := hrel
        by_cases hJ0 : J ≤ a0
        · have q0 : ¬ (a0 : Int) < (J : Int) := by omega
          have q0n : ¬ a0 < J := by omega
          have q0d : decide (a0 < J) = false := decide_eq_false q0n
          go_wp2_with fail
          go_quiet (fail)
          go_wp2_with fail
          go_roundw
          case rel => exact ⟨k + 1, d2, by go_num, Lib.hid (by have := hk1.out; omega), Lib.hid (.inl (by omega)), Lib.hid (HW2.out.drewN _), HR2, HD2, Lib.hid (by rw [← HE1.out, insOuter_go hlk, ← HE2.out, insInner_stop hJ0])⟩
          case measure => simp [intOf]; omega
        · obtain ⟨jp, hjp⟩ : ∃ jp, J = jp + 1 := ⟨J - 1, by omega⟩
          have HJ := Lib.hid hjp
          have q1 : (a0 : Int) < (J : Int) := by omega
          have q1n : a0 < J := by omega
          have q2 : IntKind.i64.wrap ((J : Int) - 1) = (jp : Int) := by rw [show (J : Int) - 1 = jp by omega]; exact IntWalk.i64_in _ (by have := hJ.out; omega)
          have q3 : (J : Int) < (n : Int) := by have := hJ.out; omega
          have q4 : (jp : Int) < (n : Int) := by have := hJ.out; omega
          obtain ⟨cj, fj⟩ := HR2.out J (by rw [HD2.out]; omega)
          obtain ⟨cp, fp⟩ := HR2.out jp (by rw [HD2.out]; omega)
          by_cases hl : d2[J]! < d2[jp]!
          · have HE4 := Lib.hid (show insInner ltInt a0 jp (swp d2 J jp) = insInner ltInt a0 k d1 by rw [← HE2.out, hjp, insInner_go (by omega) (by rw [← hjp]; exact hl)])
            have C := Lib.hid (fun w1 => show Calls Tryd.prog 93 #[.int .u8 d2[J]!, .int .u8 d2[jp]!] w1 fun e w' => e = .returned (.bool true) ∧ w' = w1 by have := Less8_any d2[J]! d2[jp]! w1; rwa [decide_eq_true hl] at this)
            have HS := Lib.hid (HR2.out.swap (i := J) (j := jp) (by rw [HD2.out]; omega) (by rw [HD2.out]; omega))
            have HD3 := Lib.hid (show (swp d2 J jp).size = n by rw [size_swp]; exact HD2.out)
            generalize swp d2 J jp = d3 at *
            generalize d2[J]! = x at *
            generalize d2[jp]! = y at *
            clear hjp hJ0 hl HE2 HR2 HD2
            go_wp2_with fail
            go_quiet ((go_at_call 93; with_reducible exact Calls.quiet_of_same (C.out _)))
            go_wp2_with fail
            replace HS := Lib.hid (show RowB (((wr.drewN nq).setCell ⟨b, J, none⟩ (.int .u8 y)).setCell ⟨b, jp, none⟩ (.int .u8 x)) b d3 from HS.out)
            replace HW2 := Lib.hid (HW2.out.drewN nq)
            replace cj : (wr.drewN nq).cell? ⟨b, J, none⟩ = some (.int .u8 x) := cj
            replace cp : (wr.drewN nq).cell? ⟨b, jp, none⟩ = some (.int .u8 y) := cp
            replace fj : (wr.drewN nq).frozen? ⟨b, J, none⟩ = false := fj
            replace fp : (wr.drewN nq).frozen? ⟨b, jp, none⟩ = false := fp
            generalize wr.drewN nq = wq at *
            have cp2 := cell_by (k := J) cp (by have := HJ.out; omega) (.int .u8 y)
            have cj2 := cell_by (k := jp) cj (by have := HJ.out; omega) (.int .u8 x)
            go_region
            all_goals go_wp2
            go_roundw
            case rel => exact ⟨jp, d3, by go_num, Lib.hid (by have := HJ.out; have := hJ.out; omega), Lib.hid (by have := HJ.out; omega), Lib.hid ((HW2.out.set J _).set jp _).drew, HS, HD3, HE4⟩
            case measure => have := HJ.out; simp [intOf]; omega
          · have HE4 := Lib.hid (show d2 = insInner ltInt a0 k d1 by rw [← HE2.out, hjp, insInner_not (by rw [← hjp]; exact hl)])
            have C := Lib.hid (fun w1 => show Calls Tryd.prog 93 #[.int .u8 d2[J]!, .int .u8 d2[jp]!] w1 fun e w' => e = .returned (.bool false) ∧ w' = w1 by have := Less8_any d2[J]! d2[jp]! w1; rwa [decide_eq_false hl] at this)
            generalize d2[J]! = x at *
            generalize d2[jp]! = y at *
            clear hjp hJ0 hl HE2
            go_wp2_with fail
            go_quiet ((go_at_call 93; with_reducible exact Calls.quiet_of_same (C.out _)))
            go_wp2_with fail
            go_roundw
            case rel => exact ⟨k + 1, d2, by go_num, Lib.hid (by have := hk1.out; omega), Lib.hid (.inl (by omega)), Lib.hid (HW2.out.drewN _), HR2, HD2, Lib.hid (by rw [← HE1.out, insOuter_go hlk, ← HE4.out])⟩
            case measure => simp [intOf]; omega
    · have hlki : ¬ (k : Int) < (b0 : Int) := by omega
      go_wp2_with fail
      go_end0
      refine ⟨rfl, HW1.out, ?_⟩
      rw [← HE1.out, insOuter_end hlk]
      exact HR1.out

end Go.Proofs.YtehdemcfeoiecaaDoor
