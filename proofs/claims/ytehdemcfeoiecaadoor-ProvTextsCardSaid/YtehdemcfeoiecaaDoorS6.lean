/- The library's sort at bytes: partitionEqual. -/
import Derived.Test.YtehdemcfeoiecaaDoorS4
namespace Go.Proofs.YtehdemcfeoiecaaDoor
open Go.RowKit Go.Firn Go.Sort

theorem scanUp_go {p : Int → Bool} {d : Array Int} {j i : Nat} (h : i ≤ j) (hp : p d[i]! = true) : scanUp p d j i = scanUp p d j (i + 1) := by
  conv => lhs; unfold scanUp
  rw [if_pos (by rw [decide_eq_true h, hp]; rfl)]
theorem scanUp_stop {p : Int → Bool} {d : Array Int} {j i : Nat} (h : ¬ (i ≤ j ∧ p d[i]! = true)) : scanUp p d j i = i := by
  unfold scanUp
  rw [if_neg (by rw [Bool.and_eq_true, decide_eq_true_eq]; exact h)]
theorem scanDown_go {p : Int → Bool} {d : Array Int} {j i : Nat} (h : i ≤ j + 1) (hp : p d[j + 1]! = true) : scanDown p d i (j + 1) = scanDown p d i j := by
  conv => lhs; unfold scanDown
  rw [if_pos (by rw [decide_eq_true h, hp]; rfl)]
theorem scanDown_stop {p : Int → Bool} {d : Array Int} {j i : Nat} (h : ¬ (i ≤ j ∧ p d[j]! = true)) (hi : 0 < i ∨ 0 < j) : scanDown p d i j = j := by
  cases j with
  | zero => rfl
  | succ j =>
    unfold scanDown
    rw [if_neg (by rw [Bool.and_eq_true, decide_eq_true_eq]; exact h)]

/-- A number, the row turned. -/
def RetWN (b x : Nat) (d : Array Int) (w : World) (e : Ending) (w' : World) : Prop := e = .returned (.int .i64 x) ∧ Wr b w w' ∧ RowB w' b d

set_option maxRecDepth 100000 in
set_option maxHeartbeats 16000000 in
theorem peq_any (b cap n a0 b0 pv : Nat) (d : Array Int) (w : World) (hd : d.size = n) (hn : n ≤ 1000000) (hab : a0 + 1 < b0) (hb : b0 ≤ n) (hp : pv < n) (hw : RowB w b d) :
    Calls Tryd.prog 102 #[.slice (some ⟨b, 0, none⟩) n cap, .int .i64 a0, .int .i64 b0, .int .i64 pv] w (RetWN b (partitionEqual ltInt d a0 b0 pv).1 (partitionEqual ltInt d a0 b0 pv).2 w) := by
  obtain ⟨b1, hb1⟩ : ∃ b1, b1 + 1 = b0 := ⟨b0 - 1, by omega⟩
  have HF := Lib.hid (show a0 < n ∧ b1 < n ∧ a0 < b1 ∧ n ≤ 1000000 ∧ pv < n by omega)
  have HE1 := Lib.hid (show partEqLoop ltInt a0 (a0 + 1) b1 (swp d a0 pv) = partitionEqual ltInt d a0 b0 pv by unfold partitionEqual; rw [show b0 - 1 = b1 by omega])
  have s1 : IntKind.i64.wrap ((b0 : Int) - 1) = (b1 : Int) := wsub1 hb1 (by omega)
  have s2 : IntKind.i64.wrap ((a0 : Int) + 1) = ((a0 + 1 : Nat) : Int) := wadd1 rfl (by omega)
  have s3 : (a0 : Int) < (n : Int) := by omega
  have s4 : (pv : Int) < (n : Int) := by omega
  have HS := Lib.hid (hw.swap (i := a0) (j := pv) (by omega) (by omega))
  have HD3 := Lib.hid (show (swp d a0 pv).size = n by rw [size_swp]; exact hd)
  obtain ⟨cj, fj⟩ := hw a0 (by omega)
  obtain ⟨cp, fp⟩ := hw pv (by omega)
  obtain ⟨x, hx⟩ : ∃ x, d[a0]! = x := ⟨_, rfl⟩
  obtain ⟨y, hy⟩ : ∃ y, d[pv]! = y := ⟨_, rfl⟩
  rw [hx] at cj HS
  rw [hy] at cp HS
  generalize swp d a0 pv = d0 at *
  have cp2 := cell_same cp a0
  have cj2 := cell_same cj pv
  clear hx hy hb1 hab hb hp hw hd
  go_enter Tryd.func102, Tryd.ntmps102
  go_wp2_with fail
  go_region
  all_goals go_wp2
  clear cj fj cp fp cp2 cj2 s1 s2 s3 s4
  go_loopw [9, 10] (fun i j wr => ∃ (i0 j0 : Nat) (d1 : Array Int), i = .int .i64 i0 ∧ j = .int .i64 j0 ∧ Hid (a0 < i0 ∧ i0 ≤ j0 + 2 ∧ j0 < n) ∧ Hid (Wr b w wr) ∧ Hid (RowB wr b d1) ∧ Hid (d1.size = n) ∧ Hid (partEqLoop ltInt a0 i0 j0 d1 = partitionEqual ltInt d a0 b0 pv)) (fun i j _ => (intOf j + 1 - intOf i).toNat)
  case atStart => exact ⟨a0 + 1, b1, d0, by go_num, rfl, Lib.hid (by have := HF.out; omega), Lib.hid ((Wr.refl b w).set a0 _ |>.set pv _).drew, HS, HD3, HE1⟩
  case round =>
    clear HS HD3 HE1
    obtain ⟨i0, j0, d1, rfl, rfl, HE0, HW1, HR1, HD1, HE1⟩ := hrel
    go_wp2_with fail
    go_loopw [9] (fun v wr' => ∃ k : Nat, v = .int .i64 k ∧ Hid (i0 ≤ k ∧ k ≤ j0 + 2) ∧ Hid (Wr b w wr') ∧ Hid (RowB wr' b d1) ∧ Hid (scanUp (fun x => !ltInt d1[a0]! x) d1 j0 k = scanUp (fun x => !ltInt d1[a0]! x) d1 j0 i0)) (fun v _ => j0 + 1 - (intOf v).toNat)
    case atStart => exact ⟨i0, rfl, Lib.hid (by have := HE0.out; omega), HW1, HR1, Lib.hid rfl⟩
    case round =>
      clear HW1 HR1
      obtain ⟨k, rfl, hk, HW1, HR1, HK⟩ := hrel
      have hk' := hk.out
      have hf := HF.out
      have he := HE0.out
      by_cases hkj : k ≤ j0
      · have f1 : (k : Int) ≤ (j0 : Int) := by omega
        have f2 : (k : Int) < (n : Int) := by omega
        have f3 : (a0 : Int) < (n : Int) := by omega
        obtain ⟨ck, -⟩ := HR1.out k (by rw [HD1.out]; omega)
        obtain ⟨ca, -⟩ := HR1.out a0 (by rw [HD1.out]; omega)
        by_cases hl : d1[a0]! < d1[k]!
        · have C := Lib.hid (fun w1 => show Calls Tryd.prog 93 #[.int .u8 d1[a0]!, .int .u8 d1[k]!] w1 fun e w' => e = .returned (.bool true) ∧ w' = w1 by have := Less8_any d1[a0]! d1[k]! w1; rwa [decide_eq_true hl] at this)
          have HX := Lib.hid (show scanUp (fun x => !ltInt d1[a0]! x) d1 j0 i0 = k by rw [← HK.out]; exact scanUp_stop (fun h => Bool.noConfusion ((show ((fun x => !ltInt d1[a0]! x)) d1[k]! = false from (by show (!ltInt d1[a0]! d1[k]!) = false; unfold ltInt; rw [decide_eq_true hl]; rfl)).symm.trans h.2)))
          have HQ := Lib.hid hk'
          have hkj2 := hkj
          generalize d1[a0]! = x at C ck ca
          generalize d1[k]! = y at C ck ca
          clear hl hk' hf he HK hk
          go_wp2_with fail
          go_quiet ((go_at_call 93; with_reducible exact Calls.quiet_of_same (C.out _)))
          go_wp2_with fail
          replace HW1 := Lib.hid (HW1.out.drewN nq)
          replace HR1 := Lib.hid (show RowB (wr.drewN nq) b d1 from HR1.out)
          clear ck ca C
          generalize wr.drewN nq = wr at *
          obtain ⟨i2, hi2⟩ : ∃ i2, i2 = k := ⟨_, rfl⟩
          have HI2 := Lib.hid (show scanUp (fun x => !ltInt d1[a0]! x) d1 j0 i0 = i2 by rw [hi2]; exact HX.out)
          have HQ2 := Lib.hid (show i0 ≤ i2 ∧ i2 ≤ j0 + 2 ∧ a0 < i0 ∧ j0 < n by rw [hi2]; have := HQ.out; have := HE0.out; omega)
          rw [← hi2]
          clear HX HQ
          try clear f0
          try clear f1
          try clear f2
          try clear f3
          try clear hkj
          clear hi2
          try clear k
          go_loopw [10] (fun v wr' => ∃ k : Nat, v = .int .i64 k ∧ Hid (k ≤ j0 ∧ i2 ≤ k + 2 ∧ k < n ∧ i0 ≤ i2 ∧ a0 < i0) ∧ Hid (Wr b w wr') ∧ Hid (RowB wr' b d1) ∧ Hid (scanDown (fun x => ltInt d1[a0]! x) d1 i2 k = scanDown (fun x => ltInt d1[a0]! x) d1 i2 j0)) (fun v _ => (intOf v + 1).toNat)
          case atStart => exact ⟨j0, rfl, Lib.hid (by have := HQ2.out; omega), HW1, HR1, Lib.hid rfl⟩
          case round =>
            clear HW1 HR1
            obtain ⟨k, rfl, hk, HW1, HR1, HK⟩ := hrel
            have hk' := hk.out
            have hf := HF.out
            have he := HQ2.out
            by_cases hkj : i2 ≤ k
            · have f1 : (i2 : Int) ≤ (k : Int) := by omega
              have f2 : (k : Int) < (n : Int) := by omega
              have f3 : (a0 : Int) < (n : Int) := by omega
              obtain ⟨ck, -⟩ := HR1.out k (by rw [HD1.out]; omega)
              obtain ⟨ca, -⟩ := HR1.out a0 (by rw [HD1.out]; omega)
              by_cases hl : d1[a0]! < d1[k]!
              · have C := Lib.hid (fun w1 => show Calls Tryd.prog 93 #[.int .u8 d1[a0]!, .int .u8 d1[k]!] w1 fun e w' => e = .returned (.bool true) ∧ w' = w1 by have := Less8_any d1[a0]! d1[k]! w1; rwa [decide_eq_true hl] at this)
                obtain ⟨k0, hk0⟩ : ∃ k0, k0 + 1 = k := ⟨k - 1, by omega⟩
                have HK2 := Lib.hid (show scanDown (fun x => ltInt d1[a0]! x) d1 i2 k0 = scanDown (fun x => ltInt d1[a0]! x) d1 i2 j0 by rw [← HK.out, ← hk0]; exact (scanDown_go (by omega) (by rw [hk0]; exact (by show ltInt d1[a0]! d1[k]! = true; unfold ltInt; rw [decide_eq_true hl]))).symm)
                have e1 : IntKind.i64.wrap ((k : Int) - 1) = (k0 : Int) := wsub1 hk0 (by omega)
                have HM := Lib.hid (show k0 + 1 = k from hk0)
                clear hk0
                generalize d1[a0]! = x at *
                generalize d1[k]! = y at *
                clear hl hk' hf he HK
                go_wp2_with fail
                go_quiet ((go_at_call 93; with_reducible exact Calls.quiet_of_same (C.out _)))
                go_wp2_with fail
                go_roundw
                case rel => exact ⟨k0, rfl, Lib.hid (by have := hk.out; have := HF.out; have := HQ2.out; have := HM.out; omega), Lib.hid (HW1.out.drewN _), HR1, HK2⟩
                case measure => have := hk.out; have := HF.out; have := HQ2.out; have := HM.out; simp [intOf]; omega
              · have C := Lib.hid (fun w1 => show Calls Tryd.prog 93 #[.int .u8 d1[a0]!, .int .u8 d1[k]!] w1 fun e w' => e = .returned (.bool false) ∧ w' = w1 by have := Less8_any d1[a0]! d1[k]! w1; rwa [decide_eq_false hl] at this)
                have HX := Lib.hid (show scanDown (fun x => ltInt d1[a0]! x) d1 i2 j0 = k by rw [← HK.out]; exact scanDown_stop (fun h => Bool.noConfusion ((show ((fun x => ltInt d1[a0]! x)) d1[k]! = false from (by show ltInt d1[a0]! d1[k]! = false; unfold ltInt; rw [decide_eq_false hl])).symm.trans h.2)) (by omega))
                have HQ := Lib.hid hk'
                have hkj2 := hkj
                generalize d1[a0]! = x at C ck ca
                generalize d1[k]! = y at C ck ca
                clear hl hk' hf he HK hk
                go_wp2_with fail
                go_quiet ((go_at_call 93; with_reducible exact Calls.quiet_of_same (C.out _)))
                go_wp2_with fail
                replace HW1 := Lib.hid (HW1.out.drewN nq)
                replace HR1 := Lib.hid (show RowB (wr.drewN nq) b d1 from HR1.out)
                clear ck ca C
                generalize wr.drewN nq = wr at *
                have HG := Lib.hid (show partEqLoop ltInt a0 i0 j0 d1 = if i2 > k then (i2, d1) else partEqLoop ltInt a0 (i2 + 1) (k - 1) (swp d1 i2 k) by rw [partEqLoop_eq ltInt a0 i0 j0 d1, HI2.out, HX.out])
                clear HX HI2
                have hik : ¬ k < i2 := Nat.not_lt.2 hkj2
                have g0 : ¬ (k : Int) < (i2 : Int) := by omega
                have HZ := Lib.hid (show i2 < n ∧ k < n ∧ a0 < i2 ∧ i2 ≤ k by have := HQ.out; have := HQ2.out; have := HE0.out; have := HF.out; omega)
                obtain ⟨k0, hk0⟩ : ∃ k0, k0 + 1 = k := ⟨k - 1, by have := HZ.out; omega⟩
                have e1 : IntKind.i64.wrap ((k : Int) - 1) = (k0 : Int) := wsub1 hk0 (by have := HZ.out; omega)
                have e2 : IntKind.i64.wrap ((i2 : Int) + 1) = ((i2 + 1 : Nat) : Int) := wadd1 rfl (by have := HZ.out; omega)
                have f1 : (i2 : Int) < (n : Int) := by have := HZ.out; omega
                have f3 : (k : Int) < (n : Int) := by have := HZ.out; omega
                have HM := Lib.hid hk0
                have HG2 := Lib.hid (show partEqLoop ltInt a0 (i2 + 1) k0 (swp d1 i2 k) = partitionEqual ltInt d a0 b0 pv by rw [← HE1.out, HG.out, if_neg hik, show k - 1 = k0 by omega])
                clear HG HE1 hk0
                obtain ⟨cj, fj⟩ := HR1.out i2 (by rw [HD1.out]; have := HZ.out; omega)
                obtain ⟨cp, fp⟩ := HR1.out k (by rw [HD1.out]; have := HZ.out; omega)
                have HS := Lib.hid (HR1.out.swap (i := i2) (j := k) (by rw [HD1.out]; have := HZ.out; omega) (by rw [HD1.out]; have := HZ.out; omega))
                have HD3 := Lib.hid (show (swp d1 i2 k).size = n by rw [size_swp]; exact HD1.out)
                generalize swp d1 i2 k = d3 at *
                generalize d1[i2]! = x at *
                generalize d1[k]! = y at *
                have cp2 := cell_same cp i2
                have cj2 := cell_same cj k
                go_wp2_with fail
                go_region
                all_goals go_wp2
                go_roundw
                case rel => exact ⟨i2 + 1, k0, d3, by go_num, rfl, Lib.hid (by clear e1 e2; have := HZ.out; have := HM.out; omega), Lib.hid ((HW1.out.set i2 _).set k _).drew, HS, HD3, HG2⟩
                case measure => clear e1 e2; have := HZ.out; have := HM.out; have := HE0.out; have := HQ2.out; have := HQ.out; simp [intOf]; omega
            · have f0 : ¬ i2 ≤ k := hkj
              have HX := Lib.hid (show scanDown (fun x => ltInt d1[a0]! x) d1 i2 j0 = k by rw [← HK.out]; exact scanDown_stop (fun h => hkj h.1) (by omega))
              have HQ := Lib.hid hk'
              clear hk' hf he HK hk
              go_wp2_with fail
              go_quiet (fail)
              go_wp2_with fail
              replace HW1 := Lib.hid (HW1.out.drewN nq)
              replace HR1 := Lib.hid (show RowB (wr.drewN nq) b d1 from HR1.out)
              generalize wr.drewN nq = wr at *
              have HG := Lib.hid (show partEqLoop ltInt a0 i0 j0 d1 = if i2 > k then (i2, d1) else partEqLoop ltInt a0 (i2 + 1) (k - 1) (swp d1 i2 k) by rw [partEqLoop_eq ltInt a0 i0 j0 d1, HI2.out, HX.out])
              clear HX HI2
              have hik : k < i2 := Nat.lt_of_not_le f0
              have HG2 := Lib.hid (show partitionEqual ltInt d a0 b0 pv = (i2, d1) by rw [← HE1.out, HG.out, if_pos hik])
              have g0 : (k : Int) < (i2 : Int) := by omega
              clear HG HE1
              go_wp2_with fail
              go_ret
              rw [HG2.out]
              exact ⟨rfl, HW1.out, HR1.out⟩
        · have C := Lib.hid (fun w1 => show Calls Tryd.prog 93 #[.int .u8 d1[a0]!, .int .u8 d1[k]!] w1 fun e w' => e = .returned (.bool false) ∧ w' = w1 by have := Less8_any d1[a0]! d1[k]! w1; rwa [decide_eq_false hl] at this)
          have HK2 := Lib.hid (show scanUp (fun x => !ltInt d1[a0]! x) d1 j0 (k + 1) = scanUp (fun x => !ltInt d1[a0]! x) d1 j0 i0 by rw [← HK.out]; exact (scanUp_go hkj (by show (!ltInt d1[a0]! d1[k]!) = true; unfold ltInt; rw [decide_eq_false hl]; rfl)).symm)
          have e1 : IntKind.i64.wrap ((k : Int) + 1) = ((k + 1 : Nat) : Int) := wadd1 rfl (by omega)
          generalize d1[a0]! = x at *
          generalize d1[k]! = y at *
          clear hl hk' hf he HK
          go_wp2_with fail
          go_quiet ((go_at_call 93; with_reducible exact Calls.quiet_of_same (C.out _)))
          go_wp2_with fail
          go_roundw
          case rel => exact ⟨k + 1, by go_num, Lib.hid (by have := hk.out; have := HF.out; have := HE0.out; omega), Lib.hid (HW1.out.drewN _), HR1, HK2⟩
          case measure => have := hk.out; have := HF.out; have := HE0.out; simp [intOf]; omega
      · have f0 : ¬ k ≤ j0 := hkj
        have HX := Lib.hid (show scanUp (fun x => !ltInt d1[a0]! x) d1 j0 i0 = k by rw [← HK.out]; exact scanUp_stop (fun h => hkj h.1))
        have HQ := Lib.hid hk'
        clear hk' hf he HK hk
        go_wp2_with fail
        go_quiet (fail)
        go_wp2_with fail
        replace HW1 := Lib.hid (HW1.out.drewN nq)
        replace HR1 := Lib.hid (show RowB (wr.drewN nq) b d1 from HR1.out)
        generalize wr.drewN nq = wr at *
        obtain ⟨i2, hi2⟩ : ∃ i2, i2 = k := ⟨_, rfl⟩
        have HI2 := Lib.hid (show scanUp (fun x => !ltInt d1[a0]! x) d1 j0 i0 = i2 by rw [hi2]; exact HX.out)
        have HQ2 := Lib.hid (show i0 ≤ i2 ∧ i2 ≤ j0 + 2 ∧ a0 < i0 ∧ j0 < n by rw [hi2]; have := HQ.out; have := HE0.out; omega)
        rw [← hi2]
        clear HX HQ
        try clear f0
        try clear f1
        try clear f2
        try clear f3
        try clear hkj
        clear hi2
        try clear k
        go_loopw [10] (fun v wr' => ∃ k : Nat, v = .int .i64 k ∧ Hid (k ≤ j0 ∧ i2 ≤ k + 2 ∧ k < n ∧ i0 ≤ i2 ∧ a0 < i0) ∧ Hid (Wr b w wr') ∧ Hid (RowB wr' b d1) ∧ Hid (scanDown (fun x => ltInt d1[a0]! x) d1 i2 k = scanDown (fun x => ltInt d1[a0]! x) d1 i2 j0)) (fun v _ => (intOf v + 1).toNat)
        case atStart => exact ⟨j0, rfl, Lib.hid (by have := HQ2.out; omega), HW1, HR1, Lib.hid rfl⟩
        case round =>
          clear HW1 HR1
          obtain ⟨k, rfl, hk, HW1, HR1, HK⟩ := hrel
          have hk' := hk.out
          have hf := HF.out
          have he := HQ2.out
          by_cases hkj : i2 ≤ k
          · have f1 : (i2 : Int) ≤ (k : Int) := by omega
            have f2 : (k : Int) < (n : Int) := by omega
            have f3 : (a0 : Int) < (n : Int) := by omega
            obtain ⟨ck, -⟩ := HR1.out k (by rw [HD1.out]; omega)
            obtain ⟨ca, -⟩ := HR1.out a0 (by rw [HD1.out]; omega)
            by_cases hl : d1[a0]! < d1[k]!
            · have C := Lib.hid (fun w1 => show Calls Tryd.prog 93 #[.int .u8 d1[a0]!, .int .u8 d1[k]!] w1 fun e w' => e = .returned (.bool true) ∧ w' = w1 by have := Less8_any d1[a0]! d1[k]! w1; rwa [decide_eq_true hl] at this)
              obtain ⟨k0, hk0⟩ : ∃ k0, k0 + 1 = k := ⟨k - 1, by omega⟩
              have HK2 := Lib.hid (show scanDown (fun x => ltInt d1[a0]! x) d1 i2 k0 = scanDown (fun x => ltInt d1[a0]! x) d1 i2 j0 by rw [← HK.out, ← hk0]; exact (scanDown_go (by omega) (by rw [hk0]; exact (by show ltInt d1[a0]! d1[k]! = true; unfold ltInt; rw [decide_eq_true hl]))).symm)
              have e1 : IntKind.i64.wrap ((k : Int) - 1) = (k0 : Int) := wsub1 hk0 (by omega)
              have HM := Lib.hid (show k0 + 1 = k from hk0)
              clear hk0
              generalize d1[a0]! = x at *
              generalize d1[k]! = y at *
              clear hl hk' hf he HK
              go_wp2_with fail
              go_quiet ((go_at_call 93; with_reducible exact Calls.quiet_of_same (C.out _)))
              go_wp2_with fail
              go_roundw
              case rel => exact ⟨k0, rfl, Lib.hid (by have := hk.out; have := HF.out; have := HQ2.out; have := HM.out; omega), Lib.hid (HW1.out.drewN _), HR1, HK2⟩
              case measure => have := hk.out; have := HF.out; have := HQ2.out; have := HM.out; simp [intOf]; omega
            · have C := Lib.hid (fun w1 => show Calls Tryd.prog 93 #[.int .u8 d1[a0]!, .int .u8 d1[k]!] w1 fun e w' => e = .returned (.bool false) ∧ w' = w1 by have := Less8_any d1[a0]! d1[k]! w1; rwa [decide_eq_false hl] at this)
              have HX := Lib.hid (show scanDown (fun x => ltInt d1[a0]! x) d1 i2 j0 = k by rw [← HK.out]; exact scanDown_stop (fun h => Bool.noConfusion ((show ((fun x => ltInt d1[a0]! x)) d1[k]! = false from (by show ltInt d1[a0]! d1[k]! = false; unfold ltInt; rw [decide_eq_false hl])).symm.trans h.2)) (by omega))
              have HQ := Lib.hid hk'
              have hkj2 := hkj
              generalize d1[a0]! = x at C ck ca
              generalize d1[k]! = y at C ck ca
              clear hl hk' hf he HK hk
              go_wp2_with fail
              go_quiet ((go_at_call 93; with_reducible exact Calls.quiet_of_same (C.out _)))
              go_wp2_with fail
              replace HW1 := Lib.hid (HW1.out.drewN nq)
              replace HR1 := Lib.hid (show RowB (wr.drewN nq) b d1 from HR1.out)
              clear ck ca C
              generalize wr.drewN nq = wr at *
              have HG := Lib.hid (show partEqLoop ltInt a0 i0 j0 d1 = if i2 > k then (i2, d1) else partEqLoop ltInt a0 (i2 + 1) (k - 1) (swp d1 i2 k) by rw [partEqLoop_eq ltInt a0 i0 j0 d1, HI2.out, HX.out])
              clear HX HI2
              have hik : ¬ k < i2 := Nat.not_lt.2 hkj2
              have g0 : ¬ (k : Int) < (i2 : Int) := by omega
              have HZ := Lib.hid (show i2 < n ∧ k < n ∧ a0 < i2 ∧ i2 ≤ k by have := HQ.out; have := HQ2.out; have := HE0.out; have := HF.out; omega)
              obtain ⟨k0, hk0⟩ : ∃ k0, k0 + 1 = k := ⟨k - 1, by have := HZ.out; omega⟩
              have e1 : IntKind.i64.wrap ((k : Int) - 1) = (k0 : Int) := wsub1 hk0 (by have := HZ.out; omega)
              have e2 : IntKind.i64.wrap ((i2 : Int) + 1) = ((i2 + 1 : Nat) : Int) := wadd1 rfl (by have := HZ.out; omega)
              have f1 : (i2 : Int) < (n : Int) := by have := HZ.out; omega
              have f3 : (k : Int) < (n : Int) := by have := HZ.out; omega
              have HM := Lib.hid hk0
              have HG2 := Lib.hid (show partEqLoop ltInt a0 (i2 + 1) k0 (swp d1 i2 k) = partitionEqual ltInt d a0 b0 pv by rw [← HE1.out, HG.out, if_neg hik, show k - 1 = k0 by omega])
              clear HG HE1 hk0
              obtain ⟨cj, fj⟩ := HR1.out i2 (by rw [HD1.out]; have := HZ.out; omega)
              obtain ⟨cp, fp⟩ := HR1.out k (by rw [HD1.out]; have := HZ.out; omega)
              have HS := Lib.hid (HR1.out.swap (i := i2) (j := k) (by rw [HD1.out]; have := HZ.out; omega) (by rw [HD1.out]; have := HZ.out; omega))
              have HD3 := Lib.hid (show (swp d1 i2 k).size = n by rw [size_swp]; exact HD1.out)
              generalize swp d1 i2 k = d3 at *
              generalize d1[i2]! = x at *
              generalize d1[k]! = y at *
              have cp2 := cell_same cp i2
              have cj2 := cell_same cj k
              go_wp2_with fail
              go_region
              all_goals go_wp2
              go_roundw
              case rel => exact ⟨i2 + 1, k0, d3, by go_num, rfl, Lib.hid (by clear e1 e2; have := HZ.out; have := HM.out; omega), Lib.hid ((HW1.out.set i2 _).set k _).drew, HS, HD3, HG2⟩
              case measure => clear e1 e2; have := HZ.out; have := HM.out; have := HE0.out; have := HQ2.out; have := HQ.out; simp [intOf]; omega
          · have f0 : ¬ i2 ≤ k := hkj
            have HX := Lib.hid (show scanDown (fun x => ltInt d1[a0]! x) d1 i2 j0 = k by rw [← HK.out]; exact scanDown_stop (fun h => hkj h.1) (by omega))
            have HQ := Lib.hid hk'
            clear hk' hf he HK hk
            go_wp2_with fail
            go_quiet (fail)
            go_wp2_with fail
            replace HW1 := Lib.hid (HW1.out.drewN nq)
            replace HR1 := Lib.hid (show RowB (wr.drewN nq) b d1 from HR1.out)
            generalize wr.drewN nq = wr at *
            have HG := Lib.hid (show partEqLoop ltInt a0 i0 j0 d1 = if i2 > k then (i2, d1) else partEqLoop ltInt a0 (i2 + 1) (k - 1) (swp d1 i2 k) by rw [partEqLoop_eq ltInt a0 i0 j0 d1, HI2.out, HX.out])
            clear HX HI2
            have hik : k < i2 := Nat.lt_of_not_le f0
            have HG2 := Lib.hid (show partitionEqual ltInt d a0 b0 pv = (i2, d1) by rw [← HE1.out, HG.out, if_pos hik])
            have g0 : (k : Int) < (i2 : Int) := by omega
            clear HG HE1
            go_wp2_with fail
            go_ret
            rw [HG2.out]
            exact ⟨rfl, HW1.out, HR1.out⟩

end Go.Proofs.YtehdemcfeoiecaaDoor
