/- The library's sort at bytes: partition. -/
import Derived.Test.YtehdemcfeoiecaaDoorS6
namespace Go.Proofs.YtehdemcfeoiecaaDoor
open Go.RowKit Go.Firn Go.Sort

/-- What the loop leaves of partition. -/
def partR (a i j : Nat) (d : Array Int) : Nat × Bool × Array Int := ((partLoop ltInt a i j d).1, false, swp (partLoop ltInt a i j d).2 (partLoop ltInt a i j d).1 a)
theorem part_eq {d d1 : Array Int} {a b pv i0 j0 : Nat} (h1 : swp d a pv = d1) (hb : b - 1 = j0) (hi : a + 1 = i0) (i2 : Nat) (hI : scanUp (fun x => ltInt x d1[a]!) d1 j0 i0 = i2) (k : Nat) (hK : scanDown (fun x => !ltInt x d1[a]!) d1 i2 j0 = k) :
    partition ltInt d a b pv = if i2 > k then (k, true, swp d1 k a) else partR a (i2 + 1) (k - 1) (swp d1 i2 k) := by
  unfold partition partR
  simp only [h1, hb, hi, hI, hK]
/-- A number and a truth, the row turned. -/
def RetWP (b x : Nat) (t : Bool) (d : Array Int) (w : World) (e : Ending) (w' : World) : Prop := e = .returned (.tuple #[.int .i64 x, .bool t]) ∧ Wr b w w' ∧ RowB w' b d

set_option maxRecDepth 100000 in
set_option maxHeartbeats 16000000 in
theorem part_any (b cap n a0 b0 pv : Nat) (d : Array Int) (w : World) (hd : d.size = n) (hn : n ≤ 1000000) (hab : a0 + 1 < b0) (hb : b0 ≤ n) (hp : pv < n) (hw : RowB w b d) :
    Calls Tryd.prog 103 #[.slice (some ⟨b, 0, none⟩) n cap, .int .i64 a0, .int .i64 b0, .int .i64 pv] w (RetWP b (partition ltInt d a0 b0 pv).1 (partition ltInt d a0 b0 pv).2.1 (partition ltInt d a0 b0 pv).2.2 w) := by
  obtain ⟨j0, hj0⟩ : ∃ j0, j0 + 1 = b0 := ⟨b0 - 1, by omega⟩
  obtain ⟨i0, hi0⟩ : ∃ i0, a0 + 1 = i0 := ⟨_, rfl⟩
  have HF := Lib.hid (show a0 < n ∧ n ≤ 1000000 ∧ pv < n by omega)
  have HE0 := Lib.hid (show a0 < i0 ∧ i0 ≤ j0 + 2 ∧ j0 < n by omega)
  have HE1 := Lib.hid (part_eq (d := d) (d1 := swp d a0 pv) (a := a0) (b := b0) (pv := pv) rfl (show b0 - 1 = j0 by omega) hi0)
  have s1 : IntKind.i64.wrap ((b0 : Int) - 1) = (j0 : Int) := wsub1 hj0 (by omega)
  have s2 : IntKind.i64.wrap ((a0 : Int) + 1) = (i0 : Int) := wadd1 hi0 (by omega)
  have s3 : (a0 : Int) < (n : Int) := by omega
  have s4 : (pv : Int) < (n : Int) := by omega
  have HR1 := Lib.hid (hw.swap (i := a0) (j := pv) (by omega) (by omega))
  have HD1 := Lib.hid (show (swp d a0 pv).size = n by rw [size_swp]; exact hd)
  obtain ⟨cj, fj⟩ := hw a0 (by omega)
  obtain ⟨cp, fp⟩ := hw pv (by omega)
  obtain ⟨x, hx⟩ : ∃ x, d[a0]! = x := ⟨_, rfl⟩
  obtain ⟨y, hy⟩ : ∃ y, d[pv]! = y := ⟨_, rfl⟩
  rw [hx] at cj HR1
  rw [hy] at cp HR1
  generalize swp d a0 pv = d1 at *
  have cp2 := cell_same cp a0
  have cj2 := cell_same cj pv
  clear hx hy hj0 hi0 hab hb hp hw hd
  go_enter Tryd.func103, Tryd.ntmps103
  go_wp2_with fail
  go_region
  all_goals go_wp2
  have HW1 := Lib.hid (show Wr b w (((w.setCell ⟨b, a0, none⟩ (.int .u8 y)).setCell ⟨b, pv, none⟩ (.int .u8 x)).drew) from ((Wr.refl b w).set a0 _ |>.set pv _).drew)
  clear cj fj cp fp cp2 cj2 s1 s2 s3 s4
  go_loopw [10] (fun v wr' => ∃ k : Nat, v = .int .i64 k ∧ Hid (i0 ≤ k ∧ k ≤ j0 + 2) ∧ Hid (Wr b w wr') ∧ Hid (RowB wr' b d1) ∧ Hid (scanUp (fun x => ltInt x d1[a0]!) d1 j0 k = scanUp (fun x => ltInt x d1[a0]!) d1 j0 i0)) (fun v _ => j0 + 1 - (intOf v).toNat)
  case atStart => exact ⟨i0, rfl, Lib.hid (by have := HE0.out; omega), HW1, HR1, Lib.hid rfl⟩
  case round =>
    clear HW1 HR1
    obtain ⟨k, rfl, hk, HW1, HR1, HK⟩ := hrel
    have hk' := hk.out
    have hf := HF.out
    have he := HE0.out
    by_cases hkj : k ≤ j0
    · have f1 : (k : Int) ≤ (j0 : Int) := by omega
      have f2 : (k : Int) < (n : Int) := by omega
      have f3 : (a0 : Int) < (n : Int) := by omega
      obtain ⟨ck, -⟩ := HR1.out k (by rw [HD1.out]; omega)
      obtain ⟨ca, -⟩ := HR1.out a0 (by rw [HD1.out]; omega)
      by_cases hl : d1[k]! < d1[a0]!
      · have C := Lib.hid (fun w1 => show Calls Tryd.prog 93 #[.int .u8 d1[k]!, .int .u8 d1[a0]!] w1 fun e w' => e = .returned (.bool true) ∧ w' = w1 by have := Less8_any d1[k]! d1[a0]! w1; rwa [decide_eq_true hl] at this)
        have HK2 := Lib.hid (show scanUp (fun x => ltInt x d1[a0]!) d1 j0 (k + 1) = scanUp (fun x => ltInt x d1[a0]!) d1 j0 i0 by rw [← HK.out]; exact (scanUp_go hkj (by show ltInt d1[k]! d1[a0]! = true; unfold ltInt; rw [decide_eq_true hl])).symm)
        have e1 : IntKind.i64.wrap ((k : Int) + 1) = ((k + 1 : Nat) : Int) := wadd1 rfl (by omega)
        generalize d1[k]! = x at *
        generalize d1[a0]! = y at *
        clear hl hk' hf he HK
        go_wp2_with fail
        go_quiet ((go_at_call 93; with_reducible exact Calls.quiet_of_same (C.out _)))
        go_wp2_with fail
        go_roundw
        case rel => exact ⟨k + 1, by go_num, Lib.hid (by have := hk.out; have := HF.out; have := HE0.out; omega), Lib.hid (HW1.out.drewN _), HR1, HK2⟩
        case measure => have := hk.out; have := HF.out; have := HE0.out; simp [intOf]; omega
      · have C := Lib.hid (fun w1 => show Calls Tryd.prog 93 #[.int .u8 d1[k]!, .int .u8 d1[a0]!] w1 fun e w' => e = .returned (.bool false) ∧ w' = w1 by have := Less8_any d1[k]! d1[a0]! w1; rwa [decide_eq_false hl] at this)
        have HX := Lib.hid (show scanUp (fun x => ltInt x d1[a0]!) d1 j0 i0 = k by rw [← HK.out]; exact scanUp_stop (fun h => Bool.noConfusion ((show ((fun x => ltInt x d1[a0]!)) d1[k]! = false from (by show ltInt d1[k]! d1[a0]! = false; unfold ltInt; rw [decide_eq_false hl])).symm.trans h.2)))
        have HQ := Lib.hid hk'
        have hkj2 := hkj
        generalize d1[k]! = x at C ck ca
        generalize d1[a0]! = y at C ck ca
        clear hl hk' hf he HK hk
        go_wp2_with fail
        go_quiet ((go_at_call 93; with_reducible exact Calls.quiet_of_same (C.out _)))
        go_wp2_with fail
        replace HW1 := Lib.hid (HW1.out.drewN nq)
        replace HR1 := Lib.hid (show RowB (wr.drewN nq) b d1 from HR1.out)
        clear ck ca C
        generalize wr.drewN nq = wr at *
        obtain ⟨i2, hi2⟩ : ∃ i2, i2 = k := ⟨_, rfl⟩
        have HI2 := Lib.hid (show scanUp (fun x => ltInt x d1[a0]!) d1 j0 i0 = i2 by rw [hi2]; exact HX.out)
        have HQ2 := Lib.hid (show i0 ≤ i2 ∧ i2 ≤ j0 + 2 ∧ a0 < i0 ∧ j0 < n by rw [hi2]; have := HQ.out; have := HE0.out; omega)
        rw [← hi2]
        clear HX HQ
        try clear f0
        try clear f1
        try clear f2
        try clear f3
        try clear hkj
        clear hi2
        try clear k
        go_loopw [11] (fun v wr' => ∃ k : Nat, v = .int .i64 k ∧ Hid (k ≤ j0 ∧ i2 ≤ k + 2 ∧ k < n ∧ i0 ≤ i2 ∧ a0 < i0) ∧ Hid (Wr b w wr') ∧ Hid (RowB wr' b d1) ∧ Hid (scanDown (fun x => !ltInt x d1[a0]!) d1 i2 k = scanDown (fun x => !ltInt x d1[a0]!) d1 i2 j0)) (fun v _ => (intOf v + 1).toNat)
        case atStart => exact ⟨j0, rfl, Lib.hid (by have := HQ2.out; omega), HW1, HR1, Lib.hid rfl⟩
        case round =>
          clear HW1 HR1
          obtain ⟨k, rfl, hk, HW1, HR1, HK⟩ := hrel
          have hk' := hk.out
          have hf := HF.out
          have he := HQ2.out
          by_cases hkj : i2 ≤ k
          · have f1 : (i2 : Int) ≤ (k : Int) := by omega
            have f2 : (k : Int) < (n : Int) := by omega
            have f3 : (a0 : Int) < (n : Int) := by omega
            obtain ⟨ck, -⟩ := HR1.out k (by rw [HD1.out]; omega)
            obtain ⟨ca, -⟩ := HR1.out a0 (by rw [HD1.out]; omega)
            by_cases hl : d1[k]! < d1[a0]!
            · have C := Lib.hid (fun w1 => show Calls Tryd.prog 93 #[.int .u8 d1[k]!, .int .u8 d1[a0]!] w1 fun e w' => e = .returned (.bool true) ∧ w' = w1 by have := Less8_any d1[k]! d1[a0]! w1; rwa [decide_eq_true hl] at this)
              have HX := Lib.hid (show scanDown (fun x => !ltInt x d1[a0]!) d1 i2 j0 = k by rw [← HK.out]; exact scanDown_stop (fun h => Bool.noConfusion ((show ((fun x => !ltInt x d1[a0]!)) d1[k]! = false from (by show (!ltInt d1[k]! d1[a0]!) = false; unfold ltInt; rw [decide_eq_true hl]; rfl)).symm.trans h.2)) (by omega))
              have HQ := Lib.hid hk'
              have hkj2 := hkj
              generalize d1[k]! = x at C ck ca
              generalize d1[a0]! = y at C ck ca
              clear hl hk' hf he HK hk
              go_wp2_with fail
              go_quiet ((go_at_call 93; with_reducible exact Calls.quiet_of_same (C.out _)))
              go_wp2_with fail
              replace HW1 := Lib.hid (HW1.out.drewN nq)
              replace HR1 := Lib.hid (show RowB (wr.drewN nq) b d1 from HR1.out)
              clear ck ca C
              generalize wr.drewN nq = wr at *
              have HG := Lib.hid (show ¬ k < i2 → ∀ k0, k0 + 1 = k → partition ltInt d a0 b0 pv = partR a0 (i2 + 1) k0 (swp d1 i2 k) from fun h k0 hk0 => by
                have := HE1.out i2 HI2.out k HX.out
                rw [if_neg (show ¬ i2 > k from h), show k - 1 = k0 by omega] at this
                exact this)
              clear HX HI2 HE1
              have hik : ¬ k < i2 := Nat.not_lt.2 hkj2
              have g0 : ¬ (k : Int) < (i2 : Int) := by omega
              have HZ := Lib.hid (show i2 < n ∧ k < n ∧ a0 < i2 ∧ i2 ≤ k by have := HQ.out; have := HQ2.out; have := HE0.out; have := HF.out; omega)
              obtain ⟨k0, hk0⟩ : ∃ k0, k0 + 1 = k := ⟨k - 1, by have := HZ.out; omega⟩
              have f1 : (i2 : Int) < (n : Int) := by have := HZ.out; omega
              have f3 : (k : Int) < (n : Int) := by have := HZ.out; omega
              have HM := Lib.hid hk0
              have HP := Lib.hid (HG.out hik k0 hk0)
              have e1 : IntKind.i64.wrap ((k : Int) - 1) = (k0 : Int) := wsub1 hk0 (by have := HZ.out; omega)
              have e2 : IntKind.i64.wrap ((i2 : Int) + 1) = ((i2 + 1 : Nat) : Int) := wadd1 rfl (by have := HZ.out; omega)
              clear HG hk0
              obtain ⟨cj, fj⟩ := HR1.out i2 (by rw [HD1.out]; have := HZ.out; omega)
              obtain ⟨cp, fp⟩ := HR1.out k (by rw [HD1.out]; have := HZ.out; omega)
              have HS := Lib.hid (HR1.out.swap (i := i2) (j := k) (by rw [HD1.out]; have := HZ.out; omega) (by rw [HD1.out]; have := HZ.out; omega))
              have HD3 := Lib.hid (show (swp d1 i2 k).size = n by rw [size_swp]; exact HD1.out)
              generalize swp d1 i2 k = d3 at *
              generalize d1[i2]! = x at *
              generalize d1[k]! = y at *
              have cp2 := cell_same cp i2
              have cj2 := cell_same cj k
              go_wp2_with fail
              go_region
              all_goals go_wp2
              clear cj fj cp fp cp2 cj2 e1 e2
              have HE9 := Lib.hid (show a0 < i2 + 1 ∧ i2 + 1 ≤ k0 + 2 ∧ k0 < n by have := HZ.out; have := HM.out; omega)
              go_loopw [10, 11] (fun i j wr => ∃ (i0 j0 : Nat) (d1 : Array Int), i = .int .i64 i0 ∧ j = .int .i64 j0 ∧ Hid (a0 < i0 ∧ i0 ≤ j0 + 2 ∧ j0 < n) ∧ Hid (Wr b w wr) ∧ Hid (RowB wr b d1) ∧ Hid (d1.size = n) ∧ Hid (partition ltInt d a0 b0 pv = partR a0 i0 j0 d1)) (fun i j _ => (intOf j + 1 - intOf i).toNat)
              case atStart => exact ⟨i2 + 1, k0, d3, by go_num, rfl, HE9, Lib.hid ((HW1.out.set i2 _).set k _).drew, HS, HD3, HP⟩
              case round =>
                clear HS HD3 HP HE0 HW1 HR1 HD1 HM HZ HQ HQ2 HE9 f1 f3 g0 hik hkj2
                try clear hkj
                obtain ⟨i0, j0, d1, rfl, rfl, HE0, HW1, HR1, HD1, HE1⟩ := hrel
                go_wp2_with fail
                go_loopw [10] (fun v wr' => ∃ k : Nat, v = .int .i64 k ∧ Hid (i0 ≤ k ∧ k ≤ j0 + 2) ∧ Hid (Wr b w wr') ∧ Hid (RowB wr' b d1) ∧ Hid (scanUp (fun x => ltInt x d1[a0]!) d1 j0 k = scanUp (fun x => ltInt x d1[a0]!) d1 j0 i0)) (fun v _ => j0 + 1 - (intOf v).toNat)
                case atStart => exact ⟨i0, rfl, Lib.hid (by have := HE0.out; omega), HW1, HR1, Lib.hid rfl⟩
                case round =>
                  clear HW1 HR1
                  obtain ⟨k, rfl, hk, HW1, HR1, HK⟩ := hrel
                  have hk' := hk.out
                  have hf := HF.out
                  have he := HE0.out
                  by_cases hkj : k ≤ j0
                  · have f1 : (k : Int) ≤ (j0 : Int) := by omega
                    have f2 : (k : Int) < (n : Int) := by omega
                    have f3 : (a0 : Int) < (n : Int) := by omega
                    obtain ⟨ck, -⟩ := HR1.out k (by rw [HD1.out]; omega)
                    obtain ⟨ca, -⟩ := HR1.out a0 (by rw [HD1.out]; omega)
                    by_cases hl : d1[k]! < d1[a0]!
                    · have C := Lib.hid (fun w1 => show Calls Tryd.prog 93 #[.int .u8 d1[k]!, .int .u8 d1[a0]!] w1 fun e w' => e = .returned (.bool true) ∧ w' = w1 by have := Less8_any d1[k]! d1[a0]! w1; rwa [decide_eq_true hl] at this)
                      have HK2 := Lib.hid (show scanUp (fun x => ltInt x d1[a0]!) d1 j0 (k + 1) = scanUp (fun x => ltInt x d1[a0]!) d1 j0 i0 by rw [← HK.out]; exact (scanUp_go hkj (by show ltInt d1[k]! d1[a0]! = true; unfold ltInt; rw [decide_eq_true hl])).symm)
                      have e1 : IntKind.i64.wrap ((k : Int) + 1) = ((k + 1 : Nat) : Int) := wadd1 rfl (by omega)
                      generalize d1[k]! = x at *
                      generalize d1[a0]! = y at *
                      clear hl hk' hf he HK
                      go_wp2_with fail
                      go_quiet ((go_at_call 93; with_reducible exact Calls.quiet_of_same (C.out _)))
                      go_wp2_with fail
                      go_roundw
                      case rel => exact ⟨k + 1, by go_num, Lib.hid (by have := hk.out; have := HF.out; have := HE0.out; omega), Lib.hid (HW1.out.drewN _), HR1, HK2⟩
                      case measure => have := hk.out; have := HF.out; have := HE0.out; simp [intOf]; omega
                    · have C := Lib.hid (fun w1 => show Calls Tryd.prog 93 #[.int .u8 d1[k]!, .int .u8 d1[a0]!] w1 fun e w' => e = .returned (.bool false) ∧ w' = w1 by have := Less8_any d1[k]! d1[a0]! w1; rwa [decide_eq_false hl] at this)
                      have HX := Lib.hid (show scanUp (fun x => ltInt x d1[a0]!) d1 j0 i0 = k by rw [← HK.out]; exact scanUp_stop (fun h => Bool.noConfusion ((show ((fun x => ltInt x d1[a0]!)) d1[k]! = false from (by show ltInt d1[k]! d1[a0]! = false; unfold ltInt; rw [decide_eq_false hl])).symm.trans h.2)))
                      have HQ := Lib.hid hk'
                      have hkj2 := hkj
                      generalize d1[k]! = x at C ck ca
                      generalize d1[a0]! = y at C ck ca
                      clear hl hk' hf he HK hk
                      go_wp2_with fail
                      go_quiet ((go_at_call 93; with_reducible exact Calls.quiet_of_same (C.out _)))
                      go_wp2_with fail
                      replace HW1 := Lib.hid (HW1.out.drewN nq)
                      replace HR1 := Lib.hid (show RowB (wr.drewN nq) b d1 from HR1.out)
                      clear ck ca C
                      generalize wr.drewN nq = wr at *
                      obtain ⟨i2, hi2⟩ : ∃ i2, i2 = k := ⟨_, rfl⟩
                      have HI2 := Lib.hid (show scanUp (fun x => ltInt x d1[a0]!) d1 j0 i0 = i2 by rw [hi2]; exact HX.out)
                      have HQ2 := Lib.hid (show i0 ≤ i2 ∧ i2 ≤ j0 + 2 ∧ a0 < i0 ∧ j0 < n by rw [hi2]; have := HQ.out; have := HE0.out; omega)
                      rw [← hi2]
                      clear HX HQ
                      try clear f0
                      try clear f1
                      try clear f2
                      try clear f3
                      try clear hkj
                      clear hi2
                      try clear k
                      go_loopw [11] (fun v wr' => ∃ k : Nat, v = .int .i64 k ∧ Hid (k ≤ j0 ∧ i2 ≤ k + 2 ∧ k < n ∧ i0 ≤ i2 ∧ a0 < i0) ∧ Hid (Wr b w wr') ∧ Hid (RowB wr' b d1) ∧ Hid (scanDown (fun x => !ltInt x d1[a0]!) d1 i2 k = scanDown (fun x => !ltInt x d1[a0]!) d1 i2 j0)) (fun v _ => (intOf v + 1).toNat)
                      case atStart => exact ⟨j0, rfl, Lib.hid (by have := HQ2.out; omega), HW1, HR1, Lib.hid rfl⟩
                      case round =>
                        clear HW1 HR1
                        obtain ⟨k, rfl, hk, HW1, HR1, HK⟩ := hrel
                        have hk' := hk.out
                        have hf := HF.out
                        have he := HQ2.out
                        by_cases hkj : i2 ≤ k
                        · have f1 : (i2 : Int) ≤ (k : Int) := by omega
                          have f2 : (k : Int) < (n : Int) := by omega
                          have f3 : (a0 : Int) < (n : Int) := by omega
                          obtain ⟨ck, -⟩ := HR1.out k (by rw [HD1.out]; omega)
                          obtain ⟨ca, -⟩ := HR1.out a0 (by rw [HD1.out]; omega)
                          by_cases hl : d1[k]! < d1[a0]!
                          · have C := Lib.hid (fun w1 => show Calls Tryd.prog 93 #[.int .u8 d1[k]!, .int .u8 d1[a0]!] w1 fun e w' => e = .returned (.bool true) ∧ w' = w1 by have := Less8_any d1[k]! d1[a0]! w1; rwa [decide_eq_true hl] at this)
                            have HX := Lib.hid (show scanDown (fun x => !ltInt x d1[a0]!) d1 i2 j0 = k by rw [← HK.out]; exact scanDown_stop (fun h => Bool.noConfusion ((show ((fun x => !ltInt x d1[a0]!)) d1[k]! = false from (by show (!ltInt d1[k]! d1[a0]!) = false; unfold ltInt; rw [decide_eq_true hl]; rfl)).symm.trans h.2)) (by omega))
                            have HQ := Lib.hid hk'
                            have hkj2 := hkj
                            generalize d1[k]! = x at C ck ca
                            generalize d1[a0]! = y at C ck ca
                            clear hl hk' hf he HK hk
                            go_wp2_with fail
                            go_quiet ((go_at_call 93; with_reducible exact Calls.quiet_of_same (C.out _)))
                            go_wp2_with fail
                            replace HW1 := Lib.hid (HW1.out.drewN nq)
                            replace HR1 := Lib.hid (show RowB (wr.drewN nq) b d1 from HR1.out)
                            clear ck ca C
                            generalize wr.drewN nq = wr at *
                            have HG := Lib.hid (show ¬ k < i2 → ∀ k0, k0 + 1 = k → partition ltInt d a0 b0 pv = partR a0 (i2 + 1) k0 (swp d1 i2 k) from fun h k0 hk0 => by
                              rw [HE1.out]; unfold partR; rw [partLoop_eq ltInt a0 i0 j0 d1, HI2.out, HX.out, if_neg (show ¬ i2 > k from h), show k - 1 = k0 by omega])
                            clear HX HI2 HE1
                            have hik : ¬ k < i2 := Nat.not_lt.2 hkj2
                            have g0 : ¬ (k : Int) < (i2 : Int) := by omega
                            have HZ := Lib.hid (show i2 < n ∧ k < n ∧ a0 < i2 ∧ i2 ≤ k by have := HQ.out; have := HQ2.out; have := HE0.out; have := HF.out; omega)
                            obtain ⟨k0, hk0⟩ : ∃ k0, k0 + 1 = k := ⟨k - 1, by have := HZ.out; omega⟩
                            have f1 : (i2 : Int) < (n : Int) := by have := HZ.out; omega
                            have f3 : (k : Int) < (n : Int) := by have := HZ.out; omega
                            have HM := Lib.hid hk0
                            have HP := Lib.hid (HG.out hik k0 hk0)
                            have e1 : IntKind.i64.wrap ((k : Int) - 1) = (k0 : Int) := wsub1 hk0 (by have := HZ.out; omega)
                            have e2 : IntKind.i64.wrap ((i2 : Int) + 1) = ((i2 + 1 : Nat) : Int) := wadd1 rfl (by have := HZ.out; omega)
                            clear HG hk0
                            obtain ⟨cj, fj⟩ := HR1.out i2 (by rw [HD1.out]; have := HZ.out; omega)
                            obtain ⟨cp, fp⟩ := HR1.out k (by rw [HD1.out]; have := HZ.out; omega)
                            have HS := Lib.hid (HR1.out.swap (i := i2) (j := k) (by rw [HD1.out]; have := HZ.out; omega) (by rw [HD1.out]; have := HZ.out; omega))
                            have HD3 := Lib.hid (show (swp d1 i2 k).size = n by rw [size_swp]; exact HD1.out)
                            generalize swp d1 i2 k = d3 at *
                            generalize d1[i2]! = x at *
                            generalize d1[k]! = y at *
                            have cp2 := cell_same cp i2
                            have cj2 := cell_same cj k
                            go_wp2_with fail
                            go_region
                            all_goals go_wp2
                            go_roundw
                            case rel => exact ⟨i2 + 1, k0, d3, by go_num, rfl, Lib.hid (by clear e1 e2; have := HZ.out; have := HM.out; omega), Lib.hid ((HW1.out.set i2 _).set k _).drew, HS, HD3, HP⟩
                            case measure => clear e1 e2; have := HZ.out; have := HM.out; have := HE0.out; have := HQ2.out; have := HQ.out; simp [intOf]; omega
                          · have C := Lib.hid (fun w1 => show Calls Tryd.prog 93 #[.int .u8 d1[k]!, .int .u8 d1[a0]!] w1 fun e w' => e = .returned (.bool false) ∧ w' = w1 by have := Less8_any d1[k]! d1[a0]! w1; rwa [decide_eq_false hl] at this)
                            obtain ⟨k0, hk0⟩ : ∃ k0, k0 + 1 = k := ⟨k - 1, by omega⟩
                            have HK2 := Lib.hid (show scanDown (fun x => !ltInt x d1[a0]!) d1 i2 k0 = scanDown (fun x => !ltInt x d1[a0]!) d1 i2 j0 by rw [← HK.out, ← hk0]; exact (scanDown_go (by omega) (by rw [hk0]; exact (by show (!ltInt d1[k]! d1[a0]!) = true; unfold ltInt; rw [decide_eq_false hl]; rfl))).symm)
                            have e1 : IntKind.i64.wrap ((k : Int) - 1) = (k0 : Int) := wsub1 hk0 (by omega)
                            have HM := Lib.hid (show k0 + 1 = k from hk0)
                            clear hk0
                            generalize d1[k]! = x at *
                            generalize d1[a0]! = y at *
                            clear hl hk' hf he HK
                            go_wp2_with fail
                            go_quiet ((go_at_call 93; with_reducible exact Calls.quiet_of_same (C.out _)))
                            go_wp2_with fail
                            go_roundw
                            case rel => exact ⟨k0, rfl, Lib.hid (by have := hk.out; have := HF.out; have := HQ2.out; have := HM.out; omega), Lib.hid (HW1.out.drewN _), HR1, HK2⟩
                            case measure => have := hk.out; have := HF.out; have := HQ2.out; have := HM.out; simp [intOf]; omega
                        · have f0 : ¬ i2 ≤ k := hkj
                          have HX := Lib.hid (show scanDown (fun x => !ltInt x d1[a0]!) d1 i2 j0 = k by rw [← HK.out]; exact scanDown_stop (fun h => hkj h.1) (by omega))
                          have HQ := Lib.hid hk'
                          clear hk' hf he HK hk
                          go_wp2_with fail
                          go_quiet (fail)
                          go_wp2_with fail
                          replace HW1 := Lib.hid (HW1.out.drewN nq)
                          replace HR1 := Lib.hid (show RowB (wr.drewN nq) b d1 from HR1.out)
                          generalize wr.drewN nq = wr at *
                          have hik : k < i2 := Nat.lt_of_not_le f0
                          have HP := Lib.hid (show partition ltInt d a0 b0 pv = (k, false, swp d1 k a0) by rw [HE1.out]; unfold partR; rw [partLoop_eq ltInt a0 i0 j0 d1, HI2.out, HX.out, if_pos (show i2 > k from hik)])
                          have g0 : (k : Int) < (i2 : Int) := by omega
                          clear HX HI2 HE1
                          have HZ := Lib.hid (show k < n ∧ a0 < n by have := HQ.out; have := HF.out; omega)
                          have f1 : (k : Int) < (n : Int) := by have := HZ.out; omega
                          have f3 : (a0 : Int) < (n : Int) := by have := HZ.out; omega
                          obtain ⟨cj, fj⟩ := HR1.out k (by rw [HD1.out]; have := HZ.out; omega)
                          obtain ⟨cp, fp⟩ := HR1.out a0 (by rw [HD1.out]; have := HZ.out; omega)
                          have HS := Lib.hid (HR1.out.swap (i := k) (j := a0) (by rw [HD1.out]; have := HZ.out; omega) (by rw [HD1.out]; have := HZ.out; omega))
                          generalize swp d1 k a0 = d3 at *
                          generalize d1[k]! = x at *
                          generalize d1[a0]! = y at *
                          have cp2 := cell_same cp k
                          have cj2 := cell_same cj a0
                          go_wp2_with fail
                          go_region
                          all_goals go_wp2
                          refine bodyPost_ret (v := .tuple #[.int .i64 k, .bool false]) (by simp [results, Tryd.results103, go_sem]) rfl ?_
                          rw [HP.out]
                          exact ⟨rfl, ((HW1.out.set k _).set a0 _).drew, HS.out⟩
                  · have f0 : ¬ k ≤ j0 := hkj
                    have HX := Lib.hid (show scanUp (fun x => ltInt x d1[a0]!) d1 j0 i0 = k by rw [← HK.out]; exact scanUp_stop (fun h => hkj h.1))
                    have HQ := Lib.hid hk'
                    clear hk' hf he HK hk
                    go_wp2_with fail
                    go_quiet (fail)
                    go_wp2_with fail
                    replace HW1 := Lib.hid (HW1.out.drewN nq)
                    replace HR1 := Lib.hid (show RowB (wr.drewN nq) b d1 from HR1.out)
                    generalize wr.drewN nq = wr at *
                    obtain ⟨i2, hi2⟩ : ∃ i2, i2 = k := ⟨_, rfl⟩
                    have HI2 := Lib.hid (show scanUp (fun x => ltInt x d1[a0]!) d1 j0 i0 = i2 by rw [hi2]; exact HX.out)
                    have HQ2 := Lib.hid (show i0 ≤ i2 ∧ i2 ≤ j0 + 2 ∧ a0 < i0 ∧ j0 < n by rw [hi2]; have := HQ.out; have := HE0.out; omega)
                    rw [← hi2]
                    clear HX HQ
                    try clear f0
                    try clear f1
                    try clear f2
                    try clear f3
                    try clear hkj
                    clear hi2
                    try clear k
                    go_loopw [11] (fun v wr' => ∃ k : Nat, v = .int .i64 k ∧ Hid (k ≤ j0 ∧ i2 ≤ k + 2 ∧ k < n ∧ i0 ≤ i2 ∧ a0 < i0) ∧ Hid (Wr b w wr') ∧ Hid (RowB wr' b d1) ∧ Hid (scanDown (fun x => !ltInt x d1[a0]!) d1 i2 k = scanDown (fun x => !ltInt x d1[a0]!) d1 i2 j0)) (fun v _ => (intOf v + 1).toNat)
                    case atStart => exact ⟨j0, rfl, Lib.hid (by have := HQ2.out; omega), HW1, HR1, Lib.hid rfl⟩
                    case round =>
                      clear HW1 HR1
                      obtain ⟨k, rfl, hk, HW1, HR1, HK⟩ := hrel
                      have hk' := hk.out
                      have hf := HF.out
                      have he := HQ2.out
                      by_cases hkj : i2 ≤ k
                      · have f1 : (i2 : Int) ≤ (k : Int) := by omega
                        have f2 : (k : Int) < (n : Int) := by omega
                        have f3 : (a0 : Int) < (n : Int) := by omega
                        obtain ⟨ck, -⟩ := HR1.out k (by rw [HD1.out]; omega)
                        obtain ⟨ca, -⟩ := HR1.out a0 (by rw [HD1.out]; omega)
                        by_cases hl : d1[k]! < d1[a0]!
                        · have C := Lib.hid (fun w1 => show Calls Tryd.prog 93 #[.int .u8 d1[k]!, .int .u8 d1[a0]!] w1 fun e w' => e = .returned (.bool true) ∧ w' = w1 by have := Less8_any d1[k]! d1[a0]! w1; rwa [decide_eq_true hl] at this)
                          have HX := Lib.hid (show scanDown (fun x => !ltInt x d1[a0]!) d1 i2 j0 = k by rw [← HK.out]; exact scanDown_stop (fun h => Bool.noConfusion ((show ((fun x => !ltInt x d1[a0]!)) d1[k]! = false from (by show (!ltInt d1[k]! d1[a0]!) = false; unfold ltInt; rw [decide_eq_true hl]; rfl)).symm.trans h.2)) (by omega))
                          have HQ := Lib.hid hk'
                          have hkj2 := hkj
                          generalize d1[k]! = x at C ck ca
                          generalize d1[a0]! = y at C ck ca
                          clear hl hk' hf he HK hk
                          go_wp2_with fail
                          go_quiet ((go_at_call 93; with_reducible exact Calls.quiet_of_same (C.out _)))
                          go_wp2_with fail
                          replace HW1 := Lib.hid (HW1.out.drewN nq)
                          replace HR1 := Lib.hid (show RowB (wr.drewN nq) b d1 from HR1.out)
                          clear ck ca C
                          generalize wr.drewN nq = wr at *
                          have HG := Lib.hid (show ¬ k < i2 → ∀ k0, k0 + 1 = k → partition ltInt d a0 b0 pv = partR a0 (i2 + 1) k0 (swp d1 i2 k) from fun h k0 hk0 => by
                            rw [HE1.out]; unfold partR; rw [partLoop_eq ltInt a0 i0 j0 d1, HI2.out, HX.out, if_neg (show ¬ i2 > k from h), show k - 1 = k0 by omega])
                          clear HX HI2 HE1
                          have hik : ¬ k < i2 := Nat.not_lt.2 hkj2
                          have g0 : ¬ (k : Int) < (i2 : Int) := by omega
                          have HZ := Lib.hid (show i2 < n ∧ k < n ∧ a0 < i2 ∧ i2 ≤ k by have := HQ.out; have := HQ2.out; have := HE0.out; have := HF.out; omega)
                          obtain ⟨k0, hk0⟩ : ∃ k0, k0 + 1 = k := ⟨k - 1, by have := HZ.out; omega⟩
                          have f1 : (i2 : Int) < (n : Int) := by have := HZ.out; omega
                          have f3 : (k : Int) < (n : Int) := by have := HZ.out; omega
                          have HM := Lib.hid hk0
                          have HP := Lib.hid (HG.out hik k0 hk0)
                          have e1 : IntKind.i64.wrap ((k : Int) - 1) = (k0 : Int) := wsub1 hk0 (by have := HZ.out; omega)
                          have e2 : IntKind.i64.wrap ((i2 : Int) + 1) = ((i2 + 1 : Nat) : Int) := wadd1 rfl (by have := HZ.out; omega)
                          clear HG hk0
                          obtain ⟨cj, fj⟩ := HR1.out i2 (by rw [HD1.out]; have := HZ.out; omega)
                          obtain ⟨cp, fp⟩ := HR1.out k (by rw [HD1.out]; have := HZ.out; omega)
                          have HS := Lib.hid (HR1.out.swap (i := i2) (j := k) (by rw [HD1.out]; have := HZ.out; omega) (by rw [HD1.out]; have := HZ.out; omega))
                          have HD3 := Lib.hid (show (swp d1 i2 k).size = n by rw [size_swp]; exact HD1.out)
                          generalize swp d1 i2 k = d3 at *
                          generalize d1[i2]! = x at *
                          generalize d1[k]! = y at *
                          have cp2 := cell_same cp i2
                          have cj2 := cell_same cj k
                          go_wp2_with fail
                          go_region
                          all_goals go_wp2
                          go_roundw
                          case rel => exact ⟨i2 + 1, k0, d3, by go_num, rfl, Lib.hid (by clear e1 e2; have := HZ.out; have := HM.out; omega), Lib.hid ((HW1.out.set i2 _).set k _).drew, HS, HD3, HP⟩
                          case measure => clear e1 e2; have := HZ.out; have := HM.out; have := HE0.out; have := HQ2.out; have := HQ.out; simp [intOf]; omega
                        · have C := Lib.hid (fun w1 => show Calls Tryd.prog 93 #[.int .u8 d1[k]!, .int .u8 d1[a0]!] w1 fun e w' => e = .returned (.bool false) ∧ w' = w1 by have := Less8_any d1[k]! d1[a0]! w1; rwa [decide_eq_false hl] at this)
                          obtain ⟨k0, hk0⟩ : ∃ k0, k0 + 1 = k := ⟨k - 1, by omega⟩
                          have HK2 := Lib.hid (show scanDown (fun x => !ltInt x d1[a0]!) d1 i2 k0 = scanDown (fun x => !ltInt x d1[a0]!) d1 i2 j0 by rw [← HK.out, ← hk0]; exact (scanDown_go (by omega) (by rw [hk0]; exact (by show (!ltInt d1[k]! d1[a0]!) = true; unfold ltInt; rw [decide_eq_false hl]; rfl))).symm)
                          have e1 : IntKind.i64.wrap ((k : Int) - 1) = (k0 : Int) := wsub1 hk0 (by omega)
                          have HM := Lib.hid (show k0 + 1 = k from hk0)
                          clear hk0
                          generalize d1[k]! = x at *
                          generalize d1[a0]! = y at *
                          clear hl hk' hf he HK
                          go_wp2_with fail
                          go_quiet ((go_at_call 93; with_reducible exact Calls.quiet_of_same (C.out _)))
                          go_wp2_with fail
                          go_roundw
                          case rel => exact ⟨k0, rfl, Lib.hid (by have := hk.out; have := HF.out; have := HQ2.out; have := HM.out; omega), Lib.hid (HW1.out.drewN _), HR1, HK2⟩
                          case measure => have := hk.out; have := HF.out; have := HQ2.out; have := HM.out; simp [intOf]; omega
                      · have f0 : ¬ i2 ≤ k := hkj
                        have HX := Lib.hid (show scanDown (fun x => !ltInt x d1[a0]!) d1 i2 j0 = k by rw [← HK.out]; exact scanDown_stop (fun h => hkj h.1) (by omega))
                        have HQ := Lib.hid hk'
                        clear hk' hf he HK hk
                        go_wp2_with fail
                        go_quiet (fail)
                        go_wp2_with fail
                        replace HW1 := Lib.hid (HW1.out.drewN nq)
                        replace HR1 := Lib.hid (show RowB (wr.drewN nq) b d1 from HR1.out)
                        generalize wr.drewN nq = wr at *
                        have hik : k < i2 := Nat.lt_of_not_le f0
                        have HP := Lib.hid (show partition ltInt d a0 b0 pv = (k, false, swp d1 k a0) by rw [HE1.out]; unfold partR; rw [partLoop_eq ltInt a0 i0 j0 d1, HI2.out, HX.out, if_pos (show i2 > k from hik)])
                        have g0 : (k : Int) < (i2 : Int) := by omega
                        clear HX HI2 HE1
                        have HZ := Lib.hid (show k < n ∧ a0 < n by have := HQ.out; have := HF.out; omega)
                        have f1 : (k : Int) < (n : Int) := by have := HZ.out; omega
                        have f3 : (a0 : Int) < (n : Int) := by have := HZ.out; omega
                        obtain ⟨cj, fj⟩ := HR1.out k (by rw [HD1.out]; have := HZ.out; omega)
                        obtain ⟨cp, fp⟩ := HR1.out a0 (by rw [HD1.out]; have := HZ.out; omega)
                        have HS := Lib.hid (HR1.out.swap (i := k) (j := a0) (by rw [HD1.out]; have := HZ.out; omega) (by rw [HD1.out]; have := HZ.out; omega))
                        generalize swp d1 k a0 = d3 at *
                        generalize d1[k]! = x at *
                        generalize d1[a0]! = y at *
                        have cp2 := cell_same cp k
                        have cj2 := cell_same cj a0
                        go_wp2_with fail
                        go_region
                        all_goals go_wp2
                        refine bodyPost_ret (v := .tuple #[.int .i64 k, .bool false]) (by simp [results, Tryd.results103, go_sem]) rfl ?_
                        rw [HP.out]
                        exact ⟨rfl, ((HW1.out.set k _).set a0 _).drew, HS.out⟩
            · have C := Lib.hid (fun w1 => show Calls Tryd.prog 93 #[.int .u8 d1[k]!, .int .u8 d1[a0]!] w1 fun e w' => e = .returned (.bool false) ∧ w' = w1 by have := Less8_any d1[k]! d1[a0]! w1; rwa [decide_eq_false hl] at this)
              obtain ⟨k0, hk0⟩ : ∃ k0, k0 + 1 = k := ⟨k - 1, by omega⟩
              have HK2 := Lib.hid (show scanDown (fun x => !ltInt x d1[a0]!) d1 i2 k0 = scanDown (fun x => !ltInt x d1[a0]!) d1 i2 j0 by rw [← HK.out, ← hk0]; exact (scanDown_go (by omega) (by rw [hk0]; exact (by show (!ltInt d1[k]! d1[a0]!) = true; unfold ltInt; rw [decide_eq_false hl]; rfl))).symm)
              have e1 : IntKind.i64.wrap ((k : Int) - 1) = (k0 : Int) := wsub1 hk0 (by omega)
              have HM := Lib.hid (show k0 + 1 = k from hk0)
              clear hk0
              generalize d1[k]! = x at *
              generalize d1[a0]! = y at *
              clear hl hk' hf he HK
              go_wp2_with fail
              go_quiet ((go_at_call 93; with_reducible exact Calls.quiet_of_same (C.out _)))
              go_wp2_with fail
              go_roundw
              case rel => exact ⟨k0, rfl, Lib.hid (by have := hk.out; have := HF.out; have := HQ2.out; have := HM.out; omega), Lib.hid (HW1.out.drewN _), HR1, HK2⟩
              case measure => have := hk.out; have := HF.out; have := HQ2.out; have := HM.out; simp [intOf]; omega
          · have f0 : ¬ i2 ≤ k := hkj
            have HX := Lib.hid (show scanDown (fun x => !ltInt x d1[a0]!) d1 i2 j0 = k by rw [← HK.out]; exact scanDown_stop (fun h => hkj h.1) (by omega))
            have HQ := Lib.hid hk'
            clear hk' hf he HK hk
            go_wp2_with fail
            go_quiet (fail)
            go_wp2_with fail
            replace HW1 := Lib.hid (HW1.out.drewN nq)
            replace HR1 := Lib.hid (show RowB (wr.drewN nq) b d1 from HR1.out)
            generalize wr.drewN nq = wr at *
            have hik : k < i2 := Nat.lt_of_not_le f0
            have HP := Lib.hid (show partition ltInt d a0 b0 pv = (k, true, swp d1 k a0) by
              have := HE1.out i2 HI2.out k HX.out
              rwa [if_pos (show i2 > k from hik)] at this)
            have g0 : (k : Int) < (i2 : Int) := by omega
            clear HX HI2 HE1
            have HZ := Lib.hid (show k < n ∧ a0 < n by have := HQ.out; have := HF.out; omega)
            have f1 : (k : Int) < (n : Int) := by have := HZ.out; omega
            have f3 : (a0 : Int) < (n : Int) := by have := HZ.out; omega
            obtain ⟨cj, fj⟩ := HR1.out k (by rw [HD1.out]; have := HZ.out; omega)
            obtain ⟨cp, fp⟩ := HR1.out a0 (by rw [HD1.out]; have := HZ.out; omega)
            have HS := Lib.hid (HR1.out.swap (i := k) (j := a0) (by rw [HD1.out]; have := HZ.out; omega) (by rw [HD1.out]; have := HZ.out; omega))
            generalize swp d1 k a0 = d3 at *
            generalize d1[k]! = x at *
            generalize d1[a0]! = y at *
            have cp2 := cell_same cp k
            have cj2 := cell_same cj a0
            go_wp2_with fail
            go_region
            all_goals go_wp2
            refine bodyPost_ret (v := .tuple #[.int .i64 k, .bool true]) (by simp [results, Tryd.results103, go_sem]) rfl ?_
            rw [HP.out]
            exact ⟨rfl, ((HW1.out.set k _).set a0 _).drew, HS.out⟩
    · have f0 : ¬ k ≤ j0 := hkj
      have HX := Lib.hid (show scanUp (fun x => ltInt x d1[a0]!) d1 j0 i0 = k by rw [← HK.out]; exact scanUp_stop (fun h => hkj h.1))
      have HQ := Lib.hid hk'
      clear hk' hf he HK hk
      go_wp2_with fail
      go_quiet (fail)
      go_wp2_with fail
      replace HW1 := Lib.hid (HW1.out.drewN nq)
      replace HR1 := Lib.hid (show RowB (wr.drewN nq) b d1 from HR1.out)
      generalize wr.drewN nq = wr at *
      obtain ⟨i2, hi2⟩ : ∃ i2, i2 = k := ⟨_, rfl⟩
      have HI2 := Lib.hid (show scanUp (fun x => ltInt x d1[a0]!) d1 j0 i0 = i2 by rw [hi2]; exact HX.out)
      have HQ2 := Lib.hid (show i0 ≤ i2 ∧ i2 ≤ j0 + 2 ∧ a0 < i0 ∧ j0 < n by rw [hi2]; have := HQ.out; have := HE0.out; omega)
      rw [← hi2]
      clear HX HQ
      try clear f0
      try clear f1
      try clear f2
      try clear f3
      try clear hkj
      clear hi2
      try clear k
      go_loopw [11] (fun v wr' => ∃ k : Nat, v = .int .i64 k ∧ Hid (k ≤ j0 ∧ i2 ≤ k + 2 ∧ k < n ∧ i0 ≤ i2 ∧ a0 < i0) ∧ Hid (Wr b w wr') ∧ Hid (RowB wr' b d1) ∧ Hid (scanDown (fun x => !ltInt x d1[a0]!) d1 i2 k = scanDown (fun x => !ltInt x d1[a0]!) d1 i2 j0)) (fun v _ => (intOf v + 1).toNat)
      case atStart => exact ⟨j0, rfl, Lib.hid (by have := HQ2.out; omega), HW1, HR1, Lib.hid rfl⟩
      case round =>
        clear HW1 HR1
        obtain ⟨k, rfl, hk, HW1, HR1, HK⟩ := hrel
        have hk' := hk.out
        have hf := HF.out
        have he := HQ2.out
        by_cases hkj : i2 ≤ k
        · have f1 : (i2 : Int) ≤ (k : Int) := by omega
          have f2 : (k : Int) < (n : Int) := by omega
          have f3 : (a0 : Int) < (n : Int) := by omega
          obtain ⟨ck, -⟩ := HR1.out k (by rw [HD1.out]; omega)
          obtain ⟨ca, -⟩ := HR1.out a0 (by rw [HD1.out]; omega)
          by_cases hl : d1[k]! < d1[a0]!
          · have C := Lib.hid (fun w1 => show Calls Tryd.prog 93 #[.int .u8 d1[k]!, .int .u8 d1[a0]!] w1 fun e w' => e = .returned (.bool true) ∧ w' = w1 by have := Less8_any d1[k]! d1[a0]! w1; rwa [decide_eq_true hl] at this)
            have HX := Lib.hid (show scanDown (fun x => !ltInt x d1[a0]!) d1 i2 j0 = k by rw [← HK.out]; exact scanDown_stop (fun h => Bool.noConfusion ((show ((fun x => !ltInt x d1[a0]!)) d1[k]! = false from (by show (!ltInt d1[k]! d1[a0]!) = false; unfold ltInt; rw [decide_eq_true hl]; rfl)).symm.trans h.2)) (by omega))
            have HQ := Lib.hid hk'
            have hkj2 := hkj
            generalize d1[k]! = x at C ck ca
            generalize d1[a0]! = y at C ck ca
            clear hl hk' hf he HK hk
            go_wp2_with fail
            go_quiet ((go_at_call 93; with_reducible exact Calls.quiet_of_same (C.out _)))
            go_wp2_with fail
            replace HW1 := Lib.hid (HW1.out.drewN nq)
            replace HR1 := Lib.hid (show RowB (wr.drewN nq) b d1 from HR1.out)
            clear ck ca C
            generalize wr.drewN nq = wr at *
            have HG := Lib.hid (show ¬ k < i2 → ∀ k0, k0 + 1 = k → partition ltInt d a0 b0 pv = partR a0 (i2 + 1) k0 (swp d1 i2 k) from fun h k0 hk0 => by
              have := HE1.out i2 HI2.out k HX.out
              rw [if_neg (show ¬ i2 > k from h), show k - 1 = k0 by omega] at this
              exact this)
            clear HX HI2 HE1
            have hik : ¬ k < i2 := Nat.not_lt.2 hkj2
            have g0 : ¬ (k : Int) < (i2 : Int) := by omega
            have HZ := Lib.hid (show i2 < n ∧ k < n ∧ a0 < i2 ∧ i2 ≤ k by have := HQ.out; have := HQ2.out; have := HE0.out; have := HF.out; omega)
            obtain ⟨k0, hk0⟩ : ∃ k0, k0 + 1 = k := ⟨k - 1, by have := HZ.out; omega⟩
            have f1 : (i2 : Int) < (n : Int) := by have := HZ.out; omega
            have f3 : (k : Int) < (n : Int) := by have := HZ.out; omega
            have HM := Lib.hid hk0
            have HP := Lib.hid (HG.out hik k0 hk0)
            have e1 : IntKind.i64.wrap ((k : Int) - 1) = (k0 : Int) := wsub1 hk0 (by have := HZ.out; omega)
            have e2 : IntKind.i64.wrap ((i2 : Int) + 1) = ((i2 + 1 : Nat) : Int) := wadd1 rfl (by have := HZ.out; omega)
            clear HG hk0
            obtain ⟨cj, fj⟩ := HR1.out i2 (by rw [HD1.out]; have := HZ.out; omega)
            obtain ⟨cp, fp⟩ := HR1.out k (by rw [HD1.out]; have := HZ.out; omega)
            have HS := Lib.hid (HR1.out.swap (i := i2) (j := k) (by rw [HD1.out]; have := HZ.out; omega) (by rw [HD1.out]; have := HZ.out; omega))
            have HD3 := Lib.hid (show (swp d1 i2 k).size = n by rw [size_swp]; exact HD1.out)
            generalize swp d1 i2 k = d3 at *
            generalize d1[i2]! = x at *
            generalize d1[k]! = y at *
            have cp2 := cell_same cp i2
            have cj2 := cell_same cj k
            go_wp2_with fail
            go_region
            all_goals go_wp2
            clear cj fj cp fp cp2 cj2 e1 e2
            have HE9 := Lib.hid (show a0 < i2 + 1 ∧ i2 + 1 ≤ k0 + 2 ∧ k0 < n by have := HZ.out; have := HM.out; omega)
            go_loopw [10, 11] (fun i j wr => ∃ (i0 j0 : Nat) (d1 : Array Int), i = .int .i64 i0 ∧ j = .int .i64 j0 ∧ Hid (a0 < i0 ∧ i0 ≤ j0 + 2 ∧ j0 < n) ∧ Hid (Wr b w wr) ∧ Hid (RowB wr b d1) ∧ Hid (d1.size = n) ∧ Hid (partition ltInt d a0 b0 pv = partR a0 i0 j0 d1)) (fun i j _ => (intOf j + 1 - intOf i).toNat)
            case atStart => exact ⟨i2 + 1, k0, d3, by go_num, rfl, HE9, Lib.hid ((HW1.out.set i2 _).set k _).drew, HS, HD3, HP⟩
            case round =>
              clear HS HD3 HP HE0 HW1 HR1 HD1 HM HZ HQ HQ2 HE9 f1 f3 g0 hik hkj2
              try clear hkj
              obtain ⟨i0, j0, d1, rfl, rfl, HE0, HW1, HR1, HD1, HE1⟩ := hrel
              go_wp2_with fail
              go_loopw [10] (fun v wr' => ∃ k : Nat, v = .int .i64 k ∧ Hid (i0 ≤ k ∧ k ≤ j0 + 2) ∧ Hid (Wr b w wr') ∧ Hid (RowB wr' b d1) ∧ Hid (scanUp (fun x => ltInt x d1[a0]!) d1 j0 k = scanUp (fun x => ltInt x d1[a0]!) d1 j0 i0)) (fun v _ => j0 + 1 - (intOf v).toNat)
              case atStart => exact ⟨i0, rfl, Lib.hid (by have := HE0.out; omega), HW1, HR1, Lib.hid rfl⟩
              case round =>
                clear HW1 HR1
                obtain ⟨k, rfl, hk, HW1, HR1, HK⟩ := hrel
                have hk' := hk.out
                have hf := HF.out
                have he := HE0.out
                by_cases hkj : k ≤ j0
                · have f1 : (k : Int) ≤ (j0 : Int) := by omega
                  have f2 : (k : Int) < (n : Int) := by omega
                  have f3 : (a0 : Int) < (n : Int) := by omega
                  obtain ⟨ck, -⟩ := HR1.out k (by rw [HD1.out]; omega)
                  obtain ⟨ca, -⟩ := HR1.out a0 (by rw [HD1.out]; omega)
                  by_cases hl : d1[k]! < d1[a0]!
                  · have C := Lib.hid (fun w1 => show Calls Tryd.prog 93 #[.int .u8 d1[k]!, .int .u8 d1[a0]!] w1 fun e w' => e = .returned (.bool true) ∧ w' = w1 by have := Less8_any d1[k]! d1[a0]! w1; rwa [decide_eq_true hl] at this)
                    have HK2 := Lib.hid (show scanUp (fun x => ltInt x d1[a0]!) d1 j0 (k + 1) = scanUp (fun x => ltInt x d1[a0]!) d1 j0 i0 by rw [← HK.out]; exact (scanUp_go hkj (by show ltInt d1[k]! d1[a0]! = true; unfold ltInt; rw [decide_eq_true hl])).symm)
                    have e1 : IntKind.i64.wrap ((k : Int) + 1) = ((k + 1 : Nat) : Int) := wadd1 rfl (by omega)
                    generalize d1[k]! = x at *
                    generalize d1[a0]! = y at *
                    clear hl hk' hf he HK
                    go_wp2_with fail
                    go_quiet ((go_at_call 93; with_reducible exact Calls.quiet_of_same (C.out _)))
                    go_wp2_with fail
                    go_roundw
                    case rel => exact ⟨k + 1, by go_num, Lib.hid (by have := hk.out; have := HF.out; have := HE0.out; omega), Lib.hid (HW1.out.drewN _), HR1, HK2⟩
                    case measure => have := hk.out; have := HF.out; have := HE0.out; simp [intOf]; omega
                  · have C := Lib.hid (fun w1 => show Calls Tryd.prog 93 #[.int .u8 d1[k]!, .int .u8 d1[a0]!] w1 fun e w' => e = .returned (.bool false) ∧ w' = w1 by have := Less8_any d1[k]! d1[a0]! w1; rwa [decide_eq_false hl] at this)
                    have HX := Lib.hid (show scanUp (fun x => ltInt x d1[a0]!) d1 j0 i0 = k by rw [← HK.out]; exact scanUp_stop (fun h => Bool.noConfusion ((show ((fun x => ltInt x d1[a0]!)) d1[k]! = false from (by show ltInt d1[k]! d1[a0]! = false; unfold ltInt; rw [decide_eq_false hl])).symm.trans h.2)))
                    have HQ := Lib.hid hk'
                    have hkj2 := hkj
                    generalize d1[k]! = x at C ck ca
                    generalize d1[a0]! = y at C ck ca
                    clear hl hk' hf he HK hk
                    go_wp2_with fail
                    go_quiet ((go_at_call 93; with_reducible exact Calls.quiet_of_same (C.out _)))
                    go_wp2_with fail
                    replace HW1 := Lib.hid (HW1.out.drewN nq)
                    replace HR1 := Lib.hid (show RowB (wr.drewN nq) b d1 from HR1.out)
                    clear ck ca C
                    generalize wr.drewN nq = wr at *
                    obtain ⟨i2, hi2⟩ : ∃ i2, i2 = k := ⟨_, rfl⟩
                    have HI2 := Lib.hid (show scanUp (fun x => ltInt x d1[a0]!) d1 j0 i0 = i2 by rw [hi2]; exact HX.out)
                    have HQ2 := Lib.hid (show i0 ≤ i2 ∧ i2 ≤ j0 + 2 ∧ a0 < i0 ∧ j0 < n by rw [hi2]; have := HQ.out; have := HE0.out; omega)
                    rw [← hi2]
                    clear HX HQ
                    try clear f0
                    try clear f1
                    try clear f2
                    try clear f3
                    try clear hkj
                    clear hi2
                    try clear k
                    go_loopw [11] (fun v wr' => ∃ k : Nat, v = .int .i64 k ∧ Hid (k ≤ j0 ∧ i2 ≤ k + 2 ∧ k < n ∧ i0 ≤ i2 ∧ a0 < i0) ∧ Hid (Wr b w wr') ∧ Hid (RowB wr' b d1) ∧ Hid (scanDown (fun x => !ltInt x d1[a0]!) d1 i2 k = scanDown (fun x => !ltInt x d1[a0]!) d1 i2 j0)) (fun v _ => (intOf v + 1).toNat)
                    case atStart => exact ⟨j0, rfl, Lib.hid (by have := HQ2.out; omega), HW1, HR1, Lib.hid rfl⟩
                    case round =>
                      clear HW1 HR1
                      obtain ⟨k, rfl, hk, HW1, HR1, HK⟩ := hrel
                      have hk' := hk.out
                      have hf := HF.out
                      have he := HQ2.out
                      by_cases hkj : i2 ≤ k
                      · have f1 : (i2 : Int) ≤ (k : Int) := by omega
                        have f2 : (k : Int) < (n : Int) := by omega
                        have f3 : (a0 : Int) < (n : Int) := by omega
                        obtain ⟨ck, -⟩ := HR1.out k (by rw [HD1.out]; omega)
                        obtain ⟨ca, -⟩ := HR1.out a0 (by rw [HD1.out]; omega)
                        by_cases hl : d1[k]! < d1[a0]!
                        · have C := Lib.hid (fun w1 => show Calls Tryd.prog 93 #[.int .u8 d1[k]!, .int .u8 d1[a0]!] w1 fun e w' => e = .returned (.bool true) ∧ w' = w1 by have := Less8_any d1[k]! d1[a0]! w1; rwa [decide_eq_true hl] at this)
                          have HX := Lib.hid (show scanDown (fun x => !ltInt x d1[a0]!) d1 i2 j0 = k by rw [← HK.out]; exact scanDown_stop (fun h => Bool.noConfusion ((show ((fun x => !ltInt x d1[a0]!)) d1[k]! = false from (by show (!ltInt d1[k]! d1[a0]!) = false; unfold ltInt; rw [decide_eq_true hl]; rfl)).symm.trans h.2)) (by omega))
                          have HQ := Lib.hid hk'
                          have hkj2 := hkj
                          generalize d1[k]! = x at C ck ca
                          generalize d1[a0]! = y at C ck ca
                          clear hl hk' hf he HK hk
                          go_wp2_with fail
                          go_quiet ((go_at_call 93; with_reducible exact Calls.quiet_of_same (C.out _)))
                          go_wp2_with fail
                          replace HW1 := Lib.hid (HW1.out.drewN nq)
                          replace HR1 := Lib.hid (show RowB (wr.drewN nq) b d1 from HR1.out)
                          clear ck ca C
                          generalize wr.drewN nq = wr at *
                          have HG := Lib.hid (show ¬ k < i2 → ∀ k0, k0 + 1 = k → partition ltInt d a0 b0 pv = partR a0 (i2 + 1) k0 (swp d1 i2 k) from fun h k0 hk0 => by
                            rw [HE1.out]; unfold partR; rw [partLoop_eq ltInt a0 i0 j0 d1, HI2.out, HX.out, if_neg (show ¬ i2 > k from h), show k - 1 = k0 by omega])
                          clear HX HI2 HE1
                          have hik : ¬ k < i2 := Nat.not_lt.2 hkj2
                          have g0 : ¬ (k : Int) < (i2 : Int) := by omega
                          have HZ := Lib.hid (show i2 < n ∧ k < n ∧ a0 < i2 ∧ i2 ≤ k by have := HQ.out; have := HQ2.out; have := HE0.out; have := HF.out; omega)
                          obtain ⟨k0, hk0⟩ : ∃ k0, k0 + 1 = k := ⟨k - 1, by have := HZ.out; omega⟩
                          have f1 : (i2 : Int) < (n : Int) := by have := HZ.out; omega
                          have f3 : (k : Int) < (n : Int) := by have := HZ.out; omega
                          have HM := Lib.hid hk0
                          have HP := Lib.hid (HG.out hik k0 hk0)
                          have e1 : IntKind.i64.wrap ((k : Int) - 1) = (k0 : Int) := wsub1 hk0 (by have := HZ.out; omega)
                          have e2 : IntKind.i64.wrap ((i2 : Int) + 1) = ((i2 + 1 : Nat) : Int) := wadd1 rfl (by have := HZ.out; omega)
                          clear HG hk0
                          obtain ⟨cj, fj⟩ := HR1.out i2 (by rw [HD1.out]; have := HZ.out; omega)
                          obtain ⟨cp, fp⟩ := HR1.out k (by rw [HD1.out]; have := HZ.out; omega)
                          have HS := Lib.hid (HR1.out.swap (i := i2) (j := k) (by rw [HD1.out]; have := HZ.out; omega) (by rw [HD1.out]; have := HZ.out; omega))
                          have HD3 := Lib.hid (show (swp d1 i2 k).size = n by rw [size_swp]; exact HD1.out)
                          generalize swp d1 i2 k = d3 at *
                          generalize d1[i2]! = x at *
                          generalize d1[k]! = y at *
                          have cp2 := cell_same cp i2
                          have cj2 := cell_same cj k
                          go_wp2_with fail
                          go_region
                          all_goals go_wp2
                          go_roundw
                          case rel => exact ⟨i2 + 1, k0, d3, by go_num, rfl, Lib.hid (by clear e1 e2; have := HZ.out; have := HM.out; omega), Lib.hid ((HW1.out.set i2 _).set k _).drew, HS, HD3, HP⟩
                          case measure => clear e1 e2; have := HZ.out; have := HM.out; have := HE0.out; have := HQ2.out; have := HQ.out; simp [intOf]; omega
                        · have C := Lib.hid (fun w1 => show Calls Tryd.prog 93 #[.int .u8 d1[k]!, .int .u8 d1[a0]!] w1 fun e w' => e = .returned (.bool false) ∧ w' = w1 by have := Less8_any d1[k]! d1[a0]! w1; rwa [decide_eq_false hl] at this)
                          obtain ⟨k0, hk0⟩ : ∃ k0, k0 + 1 = k := ⟨k - 1, by omega⟩
                          have HK2 := Lib.hid (show scanDown (fun x => !ltInt x d1[a0]!) d1 i2 k0 = scanDown (fun x => !ltInt x d1[a0]!) d1 i2 j0 by rw [← HK.out, ← hk0]; exact (scanDown_go (by omega) (by rw [hk0]; exact (by show (!ltInt d1[k]! d1[a0]!) = true; unfold ltInt; rw [decide_eq_false hl]; rfl))).symm)
                          have e1 : IntKind.i64.wrap ((k : Int) - 1) = (k0 : Int) := wsub1 hk0 (by omega)
                          have HM := Lib.hid (show k0 + 1 = k from hk0)
                          clear hk0
                          generalize d1[k]! = x at *
                          generalize d1[a0]! = y at *
                          clear hl hk' hf he HK
                          go_wp2_with fail
                          go_quiet ((go_at_call 93; with_reducible exact Calls.quiet_of_same (C.out _)))
                          go_wp2_with fail
                          go_roundw
                          case rel => exact ⟨k0, rfl, Lib.hid (by have := hk.out; have := HF.out; have := HQ2.out; have := HM.out; omega), Lib.hid (HW1.out.drewN _), HR1, HK2⟩
                          case measure => have := hk.out; have := HF.out; have := HQ2.out; have := HM.out; simp [intOf]; omega
                      · have f0 : ¬ i2 ≤ k := hkj
                        have HX := Lib.hid (show scanDown (fun x => !ltInt x d1[a0]!) d1 i2 j0 = k by rw [← HK.out]; exact scanDown_stop (fun h => hkj h.1) (by omega))
                        have HQ := Lib.hid hk'
                        clear hk' hf he HK hk
                        go_wp2_with fail
                        go_quiet (fail)
                        go_wp2_with fail
                        replace HW1 := Lib.hid (HW1.out.drewN nq)
                        replace HR1 := Lib.hid (show RowB (wr.drewN nq) b d1 from HR1.out)
                        generalize wr.drewN nq = wr at *
                        have hik : k < i2 := Nat.lt_of_not_le f0
                        have HP := Lib.hid (show partition ltInt d a0 b0 pv = (k, false, swp d1 k a0) by rw [HE1.out]; unfold partR; rw [partLoop_eq ltInt a0 i0 j0 d1, HI2.out, HX.out, if_pos (show i2 > k from hik)])
                        have g0 : (k : Int) < (i2 : Int) := by omega
                        clear HX HI2 HE1
                        have HZ := Lib.hid (show k < n ∧ a0 < n by have := HQ.out; have := HF.out; omega)
                        have f1 : (k : Int) < (n : Int) := by have := HZ.out; omega
                        have f3 : (a0 : Int) < (n : Int) := by have := HZ.out; omega
                        obtain ⟨cj, fj⟩ := HR1.out k (by rw [HD1.out]; have := HZ.out; omega)
                        obtain ⟨cp, fp⟩ := HR1.out a0 (by rw [HD1.out]; have := HZ.out; omega)
                        have HS := Lib.hid (HR1.out.swap (i := k) (j := a0) (by rw [HD1.out]; have := HZ.out; omega) (by rw [HD1.out]; have := HZ.out; omega))
                        generalize swp d1 k a0 = d3 at *
                        generalize d1[k]! = x at *
                        generalize d1[a0]! = y at *
                        have cp2 := cell_same cp k
                        have cj2 := cell_same cj a0
                        go_wp2_with fail
                        go_region
                        all_goals go_wp2
                        refine bodyPost_ret (v := .tuple #[.int .i64 k, .bool false]) (by simp [results, Tryd.results103, go_sem]) rfl ?_
                        rw [HP.out]
                        exact ⟨rfl, ((HW1.out.set k _).set a0 _).drew, HS.out⟩
                · have f0 : ¬ k ≤ j0 := hkj
                  have HX := Lib.hid (show scanUp (fun x => ltInt x d1[a0]!) d1 j0 i0 = k by rw [← HK.out]; exact scanUp_stop (fun h => hkj h.1))
                  have HQ := Lib.hid hk'
                  clear hk' hf he HK hk
                  go_wp2_with fail
                  go_quiet (fail)
                  go_wp2_with fail
                  replace HW1 := Lib.hid (HW1.out.drewN nq)
                  replace HR1 := Lib.hid (show RowB (wr.drewN nq) b d1 from HR1.out)
                  generalize wr.drewN nq = wr at *
                  obtain ⟨i2, hi2⟩ : ∃ i2, i2 = k := ⟨_, rfl⟩
                  have HI2 := Lib.hid (show scanUp (fun x => ltInt x d1[a0]!) d1 j0 i0 = i2 by rw [hi2]; exact HX.out)
                  have HQ2 := Lib.hid (show i0 ≤ i2 ∧ i2 ≤ j0 + 2 ∧ a0 < i0 ∧ j0 < n by rw [hi2]; have := HQ.out; have := HE0.out; omega)
                  rw [← hi2]
                  clear HX HQ
                  try clear f0
                  try clear f1
                  try clear f2
                  try clear f3
                  try clear hkj
                  clear hi2
                  try clear k
                  go_loopw [11] (fun v wr' => ∃ k : Nat, v = .int .i64 k ∧ Hid (k ≤ j0 ∧ i2 ≤ k + 2 ∧ k < n ∧ i0 ≤ i2 ∧ a0 < i0) ∧ Hid (Wr b w wr') ∧ Hid (RowB wr' b d1) ∧ Hid (scanDown (fun x => !ltInt x d1[a0]!) d1 i2 k = scanDown (fun x => !ltInt x d1[a0]!) d1 i2 j0)) (fun v _ => (intOf v + 1).toNat)
                  case atStart => exact ⟨j0, rfl, Lib.hid (by have := HQ2.out; omega), HW1, HR1, Lib.hid rfl⟩
                  case round =>
                    clear HW1 HR1
                    obtain ⟨k, rfl, hk, HW1, HR1, HK⟩ := hrel
                    have hk' := hk.out
                    have hf := HF.out
                    have he := HQ2.out
                    by_cases hkj : i2 ≤ k
                    · have f1 : (i2 : Int) ≤ (k : Int) := by omega
                      have f2 : (k : Int) < (n : Int) := by omega
                      have f3 : (a0 : Int) < (n : Int) := by omega
                      obtain ⟨ck, -⟩ := HR1.out k (by rw [HD1.out]; omega)
                      obtain ⟨ca, -⟩ := HR1.out a0 (by rw [HD1.out]; omega)
                      by_cases hl : d1[k]! < d1[a0]!
                      · have C := Lib.hid (fun w1 => show Calls Tryd.prog 93 #[.int .u8 d1[k]!, .int .u8 d1[a0]!] w1 fun e w' => e = .returned (.bool true) ∧ w' = w1 by have := Less8_any d1[k]! d1[a0]! w1; rwa [decide_eq_true hl] at this)
                        have HX := Lib.hid (show scanDown (fun x => !ltInt x d1[a0]!) d1 i2 j0 = k by rw [← HK.out]; exact scanDown_stop (fun h => Bool.noConfusion ((show ((fun x => !ltInt x d1[a0]!)) d1[k]! = false from (by show (!ltInt d1[k]! d1[a0]!) = false; unfold ltInt; rw [decide_eq_true hl]; rfl)).symm.trans h.2)) (by omega))
                        have HQ := Lib.hid hk'
                        have hkj2 := hkj
                        generalize d1[k]! = x at C ck ca
                        generalize d1[a0]! = y at C ck ca
                        clear hl hk' hf he HK hk
                        go_wp2_with fail
                        go_quiet ((go_at_call 93; with_reducible exact Calls.quiet_of_same (C.out _)))
                        go_wp2_with fail
                        replace HW1 := Lib.hid (HW1.out.drewN nq)
                        replace HR1 := Lib.hid (show RowB (wr.drewN nq) b d1 from HR1.out)
                        clear ck ca C
                        generalize wr.drewN nq = wr at *
                        have HG := Lib.hid (show ¬ k < i2 → ∀ k0, k0 + 1 = k → partition ltInt d a0 b0 pv = partR a0 (i2 + 1) k0 (swp d1 i2 k) from fun h k0 hk0 => by
                          rw [HE1.out]; unfold partR; rw [partLoop_eq ltInt a0 i0 j0 d1, HI2.out, HX.out, if_neg (show ¬ i2 > k from h), show k - 1 = k0 by omega])
                        clear HX HI2 HE1
                        have hik : ¬ k < i2 := Nat.not_lt.2 hkj2
                        have g0 : ¬ (k : Int) < (i2 : Int) := by omega
                        have HZ := Lib.hid (show i2 < n ∧ k < n ∧ a0 < i2 ∧ i2 ≤ k by have := HQ.out; have := HQ2.out; have := HE0.out; have := HF.out; omega)
                        obtain ⟨k0, hk0⟩ : ∃ k0, k0 + 1 = k := ⟨k - 1, by have := HZ.out; omega⟩
                        have f1 : (i2 : Int) < (n : Int) := by have := HZ.out; omega
                        have f3 : (k : Int) < (n : Int) := by have := HZ.out; omega
                        have HM := Lib.hid hk0
                        have HP := Lib.hid (HG.out hik k0 hk0)
                        have e1 : IntKind.i64.wrap ((k : Int) - 1) = (k0 : Int) := wsub1 hk0 (by have := HZ.out; omega)
                        have e2 : IntKind.i64.wrap ((i2 : Int) + 1) = ((i2 + 1 : Nat) : Int) := wadd1 rfl (by have := HZ.out; omega)
                        clear HG hk0
                        obtain ⟨cj, fj⟩ := HR1.out i2 (by rw [HD1.out]; have := HZ.out; omega)
                        obtain ⟨cp, fp⟩ := HR1.out k (by rw [HD1.out]; have := HZ.out; omega)
                        have HS := Lib.hid (HR1.out.swap (i := i2) (j := k) (by rw [HD1.out]; have := HZ.out; omega) (by rw [HD1.out]; have := HZ.out; omega))
                        have HD3 := Lib.hid (show (swp d1 i2 k).size = n by rw [size_swp]; exact HD1.out)
                        generalize swp d1 i2 k = d3 at *
                        generalize d1[i2]! = x at *
                        generalize d1[k]! = y at *
                        have cp2 := cell_same cp i2
                        have cj2 := cell_same cj k
                        go_wp2_with fail
                        go_region
                        all_goals go_wp2
                        go_roundw
                        case rel => exact ⟨i2 + 1, k0, d3, by go_num, rfl, Lib.hid (by clear e1 e2; have := HZ.out; have := HM.out; omega), Lib.hid ((HW1.out.set i2 _).set k _).drew, HS, HD3, HP⟩
                        case measure => clear e1 e2; have := HZ.out; have := HM.out; have := HE0.out; have := HQ2.out; have := HQ.out; simp [intOf]; omega
                      · have C := Lib.hid (fun w1 => show Calls Tryd.prog 93 #[.int .u8 d1[k]!, .int .u8 d1[a0]!] w1 fun e w' => e = .returned (.bool false) ∧ w' = w1 by have := Less8_any d1[k]! d1[a0]! w1; rwa [decide_eq_false hl] at this)
                        obtain ⟨k0, hk0⟩ : ∃ k0, k0 + 1 = k := ⟨k - 1, by omega⟩
                        have HK2 := Lib.hid (show scanDown (fun x => !ltInt x d1[a0]!) d1 i2 k0 = scanDown (fun x => !ltInt x d1[a0]!) d1 i2 j0 by rw [← HK.out, ← hk0]; exact (scanDown_go (by omega) (by rw [hk0]; exact (by show (!ltInt d1[k]! d1[a0]!) = true; unfold ltInt; rw [decide_eq_false hl]; rfl))).symm)
                        have e1 : IntKind.i64.wrap ((k : Int) - 1) = (k0 : Int) := wsub1 hk0 (by omega)
                        have HM := Lib.hid (show k0 + 1 = k from hk0)
                        clear hk0
                        generalize d1[k]! = x at *
                        generalize d1[a0]! = y at *
                        clear hl hk' hf he HK
                        go_wp2_with fail
                        go_quiet ((go_at_call 93; with_reducible exact Calls.quiet_of_same (C.out _)))
                        go_wp2_with fail
                        go_roundw
                        case rel => exact ⟨k0, rfl, Lib.hid (by have := hk.out; have := HF.out; have := HQ2.out; have := HM.out; omega), Lib.hid (HW1.out.drewN _), HR1, HK2⟩
                        case measure => have := hk.out; have := HF.out; have := HQ2.out; have := HM.out; simp [intOf]; omega
                    · have f0 : ¬ i2 ≤ k := hkj
                      have HX := Lib.hid (show scanDown (fun x => !ltInt x d1[a0]!) d1 i2 j0 = k by rw [← HK.out]; exact scanDown_stop (fun h => hkj h.1) (by omega))
                      have HQ := Lib.hid hk'
                      clear hk' hf he HK hk
                      go_wp2_with fail
                      go_quiet (fail)
                      go_wp2_with fail
                      replace HW1 := Lib.hid (HW1.out.drewN nq)
                      replace HR1 := Lib.hid (show RowB (wr.drewN nq) b d1 from HR1.out)
                      generalize wr.drewN nq = wr at *
                      have hik : k < i2 := Nat.lt_of_not_le f0
                      have HP := Lib.hid (show partition ltInt d a0 b0 pv = (k, false, swp d1 k a0) by rw [HE1.out]; unfold partR; rw [partLoop_eq ltInt a0 i0 j0 d1, HI2.out, HX.out, if_pos (show i2 > k from hik)])
                      have g0 : (k : Int) < (i2 : Int) := by omega
                      clear HX HI2 HE1
                      have HZ := Lib.hid (show k < n ∧ a0 < n by have := HQ.out; have := HF.out; omega)
                      have f1 : (k : Int) < (n : Int) := by have := HZ.out; omega
                      have f3 : (a0 : Int) < (n : Int) := by have := HZ.out; omega
                      obtain ⟨cj, fj⟩ := HR1.out k (by rw [HD1.out]; have := HZ.out; omega)
                      obtain ⟨cp, fp⟩ := HR1.out a0 (by rw [HD1.out]; have := HZ.out; omega)
                      have HS := Lib.hid (HR1.out.swap (i := k) (j := a0) (by rw [HD1.out]; have := HZ.out; omega) (by rw [HD1.out]; have := HZ.out; omega))
                      generalize swp d1 k a0 = d3 at *
                      generalize d1[k]! = x at *
                      generalize d1[a0]! = y at *
                      have cp2 := cell_same cp k
                      have cj2 := cell_same cj a0
                      go_wp2_with fail
                      go_region
                      all_goals go_wp2
                      refine bodyPost_ret (v := .tuple #[.int .i64 k, .bool false]) (by simp [results, Tryd.results103, go_sem]) rfl ?_
                      rw [HP.out]
                      exact ⟨rfl, ((HW1.out.set k _).set a0 _).drew, HS.out⟩
          · have C := Lib.hid (fun w1 => show Calls Tryd.prog 93 #[.int .u8 d1[k]!, .int .u8 d1[a0]!] w1 fun e w' => e = .returned (.bool false) ∧ w' = w1 by have := Less8_any d1[k]! d1[a0]! w1; rwa [decide_eq_false hl] at this)
            obtain ⟨k0, hk0⟩ : ∃ k0, k0 + 1 = k := ⟨k - 1, by omega⟩
            have HK2 := Lib.hid (show scanDown (fun x => !ltInt x d1[a0]!) d1 i2 k0 = scanDown (fun x => !ltInt x d1[a0]!) d1 i2 j0 by rw [← HK.out, ← hk0]; exact (scanDown_go (by omega) (by rw [hk0]; exact (by show (!ltInt d1[k]! d1[a0]!) = true; unfold ltInt; rw [decide_eq_false hl]; rfl))).symm)
            have e1 : IntKind.i64.wrap ((k : Int) - 1) = (k0 : Int) := wsub1 hk0 (by omega)
            have HM := Lib.hid (show k0 + 1 = k from hk0)
            clear hk0
            generalize d1[k]! = x at *
            generalize d1[a0]! = y at *
            clear hl hk' hf he HK
            go_wp2_with fail
            go_quiet ((go_at_call 93; with_reducible exact Calls.quiet_of_same (C.out _)))
            go_wp2_with fail
            go_roundw
            case rel => exact ⟨k0, rfl, Lib.hid (by have := hk.out; have := HF.out; have := HQ2.out; have := HM.out; omega), Lib.hid (HW1.out.drewN _), HR1, HK2⟩
            case measure => have := hk.out; have := HF.out; have := HQ2.out; have := HM.out; simp [intOf]; omega
        · have f0 : ¬ i2 ≤ k := hkj
          have HX := Lib.hid (show scanDown (fun x => !ltInt x d1[a0]!) d1 i2 j0 = k by rw [← HK.out]; exact scanDown_stop (fun h => hkj h.1) (by omega))
          have HQ := Lib.hid hk'
          clear hk' hf he HK hk
          go_wp2_with fail
          go_quiet (fail)
          go_wp2_with fail
          replace HW1 := Lib.hid (HW1.out.drewN nq)
          replace HR1 := Lib.hid (show RowB (wr.drewN nq) b d1 from HR1.out)
          generalize wr.drewN nq = wr at *
          have hik : k < i2 := Nat.lt_of_not_le f0
          have HP := Lib.hid (show partition ltInt d a0 b0 pv = (k, true, swp d1 k a0) by
            have := HE1.out i2 HI2.out k HX.out
            rwa [if_pos (show i2 > k from hik)] at this)
          have g0 : (k : Int) < (i2 : Int) := by omega
          clear HX HI2 HE1
          have HZ := Lib.hid (show k < n ∧ a0 < n by have := HQ.out; have := HF.out; omega)
          have f1 : (k : Int) < (n : Int) := by have := HZ.out; omega
          have f3 : (a0 : Int) < (n : Int) := by have := HZ.out; omega
          obtain ⟨cj, fj⟩ := HR1.out k (by rw [HD1.out]; have := HZ.out; omega)
          obtain ⟨cp, fp⟩ := HR1.out a0 (by rw [HD1.out]; have := HZ.out; omega)
          have HS := Lib.hid (HR1.out.swap (i := k) (j := a0) (by rw [HD1.out]; have := HZ.out; omega) (by rw [HD1.out]; have := HZ.out; omega))
          generalize swp d1 k a0 = d3 at *
          generalize d1[k]! = x at *
          generalize d1[a0]! = y at *
          have cp2 := cell_same cp k
          have cj2 := cell_same cj a0
          go_wp2_with fail
          go_region
          all_goals go_wp2
          refine bodyPost_ret (v := .tuple #[.int .i64 k, .bool true]) (by simp [results, Tryd.results103, go_sem]) rfl ?_
          rw [HP.out]
          exact ⟨rfl, ((HW1.out.set k _).set a0 _).drew, HS.out⟩

end Go.Proofs.YtehdemcfeoiecaaDoor
