/- The library's sort at bytes: partialInsertionSort. -/
import Derived.Test.YtehdemcfeoiecaaDoorS4
namespace Go.Proofs.YtehdemcfeoiecaaDoor
open Go.RowKit Go.Firn Go.Sort

theorem sorted_go {d : Array Int} {b i : Nat} (h : i < b) (hl : ¬ d[i]! < d[i - 1]!) : scanSorted ltInt d b i = scanSorted ltInt d b (i + 1) := by
  conv => lhs; unfold scanSorted
  rw [if_pos (by unfold ltInt; rw [decide_eq_true h, decide_eq_false hl]; rfl)]
theorem sorted_end {d : Array Int} {b i : Nat} (h : ¬ i < b) : scanSorted ltInt d b i = i := by
  unfold scanSorted; rw [if_neg (by rw [decide_eq_false h]; simp)]
theorem sorted_stop {d : Array Int} {b i : Nat} (hl : d[i]! < d[i - 1]!) : scanSorted ltInt d b i = i := by
  unfold scanSorted; rw [if_neg (by unfold ltInt; rw [decide_eq_true hl]; simp)]
theorem down_go {d : Array Int} {j : Nat} (hl : d[j + 1]! < d[j]!) : shiftDown ltInt (j + 1) d = shiftDown ltInt j (swp d (j + 1) j) := by
  conv => lhs; unfold shiftDown
  rw [if_neg (by unfold ltInt; rw [decide_eq_true hl]; simp)]
theorem down_stop {d : Array Int} {j : Nat} (hl : ¬ d[j + 1]! < d[j]!) : shiftDown ltInt (j + 1) d = d := by
  unfold shiftDown; rw [if_pos (by unfold ltInt; rw [decide_eq_false hl]; simp)]
theorem up_go {d : Array Int} {b j : Nat} (h : j < b) (hl : d[j]! < d[j - 1]!) : shiftUp ltInt b j d = shiftUp ltInt b (j + 1) (swp d j (j - 1)) := by
  conv => lhs; unfold shiftUp
  rw [if_pos h, if_neg (by unfold ltInt; rw [decide_eq_true hl]; simp)]
theorem up_stop {d : Array Int} {b j : Nat} (hl : ¬ d[j]! < d[j - 1]!) : shiftUp ltInt b j d = d := by
  unfold shiftUp
  split
  · rw [if_pos (by unfold ltInt; rw [decide_eq_false hl]; simp)]
  · rfl
theorem up_end {d : Array Int} {b j : Nat} (h : ¬ j < b) : shiftUp ltInt b j d = d := by
  unfold shiftUp; rw [if_neg h]

/-- A truth, the row turned. -/
def RetWB (b : Nat) (t : Bool) (d : Array Int) (w : World) (e : Ending) (w' : World) : Prop := e = .returned (.bool t) ∧ Wr b w w' ∧ RowB w' b d

set_option maxRecDepth 100000 in
set_option maxHeartbeats 16000000 in
theorem pins_any (b cap n a0 b0 : Nat) (d : Array Int) (w : World) (hd : d.size = n) (hn : n ≤ 1000000) (hab : a0 + 1 < b0) (hb : b0 ≤ n) (hw : RowB w b d) :
    Calls Tryd.prog 101 #[.slice (some ⟨b, 0, none⟩) n cap, .int .i64 a0, .int .i64 b0] w (RetWB b (partialInsertionSort ltInt d a0 b0).2 (partialInsertionSort ltInt d a0 b0).1 w) := by
  have HF := Lib.hid (show b0 ≤ n ∧ n ≤ 1000000 ∧ a0 + 1 < b0 by omega)
  obtain ⟨i0, hi0⟩ : ∃ i0, a0 + 1 = i0 := ⟨_, rfl⟩
  obtain ⟨L, hL⟩ : ∃ L, L + a0 = b0 := ⟨b0 - a0, by omega⟩
  have HL := Lib.hid (show b0 - a0 = L by omega)
  have HE0 := Lib.hid (show a0 + 1 ≤ i0 ∧ i0 ≤ b0 by omega)
  have HE1 := Lib.hid (show partialIns ltInt a0 b0 5 i0 d = partialInsertionSort ltInt d a0 b0 by unfold partialInsertionSort; rw [hi0])
  have HR1 := Lib.hid hw
  have HD1 := Lib.hid hd
  have s1 : IntKind.i64.wrap ((a0 : Int) + 1) = (i0 : Int) := wadd1 hi0 (by omega)
  have s2 : IntKind.i64.wrap ((b0 : Int) - (a0 : Int)) = (L : Int) := wsub hL (by clear s1; omega)
  clear hi0 hab hb hw hd hL
  go_enter Tryd.func101, Tryd.ntmps101
  go_wp2_with fail
  clear s1
  go_loopw [8, 7] (fun v u wr => ∃ (s t K : Nat) (d1 : Array Int), u = .int .i64 K ∧ v = .int .i64 t ∧ Hid (s + t = 5) ∧ Hid (a0 + 1 ≤ K ∧ K ≤ b0) ∧ Hid (Wr b w wr) ∧ Hid (RowB wr b d1) ∧ Hid (d1.size = n) ∧ Hid (partialIns ltInt a0 b0 s K d1 = partialInsertionSort ltInt d a0 b0)) (fun v _ _ => 5 - (intOf v).toNat)
  case atStart => exact ⟨5, 0, i0, d, rfl, rfl, Lib.hid rfl, HE0, Lib.hid (Wr.refl _ _), HR1, HD1, HE1⟩
  case round =>
    clear HE0 HR1 HD1 HE1
    obtain ⟨s, t, K, d1, rfl, rfl, hst, HE0, HW1, HR1, HD1, HE1⟩ := hrel
    cases s with
    | zero =>
      obtain rfl : t = 5 := by have := hst.out; omega
      have HP := Lib.hid (show partialInsertionSort ltInt d a0 b0 = (d1, false) from HE1.out.symm)
      clear HE1
      go_wp2_with fail
      go_ret
      rw [HP.out]
      exact ⟨rfl, HW1.out, HR1.out⟩
    | succ s =>
      have t5 : (t : Int) < 5 := by have := hst.out; omega
      have t5n : t < 5 := by have := hst.out; omega
      have e0 : IntKind.i64.wrap ((t : Int) + 1) = ((t + 1 : Nat) : Int) := wadd1 rfl (by clear s2; omega)
      have E0 := Lib.hid e0
      clear e0
      replace hst := Lib.hid (show s + (t + 1) = 5 by have := hst.out; omega)
      go_wp2_with fail
      go_loopw [7] (fun u wr' => ∃ k : Nat, u = .int .i64 k ∧ Hid (K ≤ k ∧ k ≤ b0) ∧ Hid (Wr b w wr') ∧ Hid (RowB wr' b d1) ∧ Hid (scanSorted ltInt d1 b0 k = scanSorted ltInt d1 b0 K)) (fun u _ => b0 - (intOf u).toNat)
      case atStart => exact ⟨K, rfl, Lib.hid ⟨Nat.le_refl _, HE0.out.2⟩, HW1, HR1, Lib.hid rfl⟩
      case round =>
        clear HW1 HR1
        obtain ⟨k, rfl, hk, HW1, HR1, HKK⟩ := hrel
        by_cases hkb : k < b0
        · have f1 : (k : Int) < (b0 : Int) := by clear s2; omega
          obtain ⟨kp, hkp⟩ : ∃ kp, kp + 1 = k := ⟨k - 1, by clear s2; have := hk.out; have := HE0.out; omega⟩
          have HZ := Lib.hid (show k < n ∧ kp < n ∧ kp + 1 = k by clear s2; have := HF.out; omega)
          have f2 : (k : Int) < (n : Int) := by clear s2; have := HZ.out; omega
          have f3 : (kp : Int) < (n : Int) := by clear s2; have := HZ.out; omega
          obtain ⟨cj, -⟩ := HR1.out k (by rw [HD1.out]; exact HZ.out.1)
          obtain ⟨cp, -⟩ := HR1.out kp (by rw [HD1.out]; exact HZ.out.2.1)
          have e1 : IntKind.i64.wrap ((k : Int) - 1) = (kp : Int) := wsub1 hkp (by clear s2; have := HF.out; omega)
          have e2 : IntKind.i64.wrap ((k : Int) + 1) = ((k + 1 : Nat) : Int) := wadd1 rfl (by clear s2 e1; have := HF.out; omega)
          by_cases hl : d1[k]! < d1[kp]!
          · have C := Lib.hid (fun w1 => show Calls Tryd.prog 93 #[.int .u8 d1[k]!, .int .u8 d1[kp]!] w1 fun e w' => e = .returned (.bool true) ∧ w' = w1 by have := Less8_any d1[k]! d1[kp]! w1; rwa [decide_eq_true hl] at this)
            have HX := Lib.hid (show scanSorted ltInt d1 b0 K = k by rw [← HKK.out]; exact sorted_stop (by rw [show k - 1 = kp by clear s2 e1 e2; omega]; exact hl))
            have HK := Lib.hid (show a0 + 1 ≤ k ∧ k < b0 by clear s2 e1 e2; have := hk.out; have := HE0.out; omega)
            have kb : ((k : Int) == (b0 : Int)) = false := by simp; clear s2 e1 e2; omega
            have hKb : ¬ k = b0 := by clear s2 e1 e2; omega
            generalize d1[k]! = x at C cj cp
            generalize d1[kp]! = y at C cj cp
            clear hl hkp HKK
            go_wp2_with fail
            go_quiet ((go_at_call 93; with_reducible exact Calls.quiet_of_same (C.out _)))
            clear e1 e2 cj cp C f2 f3
            replace HW1 := Lib.hid (HW1.out.drewN nq)
            replace HR1 := Lib.hid (show RowB (wr.drewN nq) b d1 from HR1.out)
            generalize wr.drewN nq = wr at *
            clear hk HE0 HZ
            have t5' := t5
            clear t5 t5n
            generalize hK9 : k = K at *
            clear hK9 hkb
            by_cases h50 : L < 50
            · have g50 : (L : Int) < 50 := by clear s2; omega
              have HP := Lib.hid (show partialInsertionSort ltInt d a0 b0 = (d1, false) by
                have := HE1.out
                rw [partialIns_succ] at this
                simp only [HX.out] at this
                rw [if_neg hKb, if_pos (show b0 - a0 < 50 by rw [HL.out]; exact h50)] at this
                exact this.symm)
              clear HE1 HX
              go_wp2_with fail
              go_ret
              rw [HP.out]
              exact ⟨rfl, HW1.out, HR1.out⟩
            · have g50 : ¬ (L : Int) < 50 := by clear s2; omega
              replace h50 : ¬ b0 - a0 < 50 := by rw [HL.out]; exact h50
              go_wp2_with fail
              clear s2 g50
              obtain ⟨K0, hK0⟩ : ∃ K0, K0 + 1 = K := ⟨K - 1, by have := HK.out; omega⟩
              have HZ := Lib.hid (show K < n ∧ K0 < n ∧ K0 + 1 = K by have := HK.out; have := HF.out; omega)
              obtain ⟨cj, fj⟩ := HR1.out K (by rw [HD1.out]; have := HZ.out; omega)
              obtain ⟨cp, fp⟩ := HR1.out K0 (by rw [HD1.out]; have := HZ.out; omega)
              have f2 : (K : Int) < (n : Int) := by have := HZ.out; omega
              have f3 : (K0 : Int) < (n : Int) := by have := HZ.out; omega
              have HS := Lib.hid (HR1.out.swap (i := K) (j := K0) (by rw [HD1.out]; have := HZ.out; omega) (by rw [HD1.out]; have := HZ.out; omega))
              have HD3 := Lib.hid (show (swp d1 K K0).size = n by rw [size_swp]; exact HD1.out)
              obtain ⟨ka, hka⟩ : ∃ ka, ka + a0 = K := ⟨K - a0, by have := HK.out; omega⟩
              obtain ⟨bk, hbk⟩ : ∃ bk, bk + K = b0 := ⟨b0 - K, by have := HK.out; omega⟩
              obtain ⟨K1, hK1⟩ : ∃ K1, K + 1 = K1 := ⟨_, rfl⟩
              have HKK1 := Lib.hid hK1
              have HA := Lib.hid (show partialIns ltInt a0 b0 s K (if bk ≥ 2 then shiftUp ltInt b0 K1 (if ka ≥ 2 then shiftDown ltInt K0 (swp d1 K K0) else swp d1 K K0) else (if ka ≥ 2 then shiftDown ltInt K0 (swp d1 K K0) else swp d1 K K0)) = partialInsertionSort ltInt d a0 b0 by
                have := HE1.out
                rw [partialIns_succ] at this
                simp only [HX.out, fixUp, fixDown] at this
                rw [if_neg hKb, if_neg h50, show K - 1 = K0 by omega, show K - a0 = ka by omega, show b0 - K = bk by omega, hK1] at this
                exact this)
              have hkn := HZ.out
              have hfn := HF.out
              have e1 : IntKind.i64.wrap ((K : Int) - 1) = (K0 : Int) := wsub1 hK0 (by omega)
              have e2 : IntKind.i64.wrap ((K : Int) - (a0 : Int)) = (ka : Int) := wsub hka (by clear e1; omega)
              have E1 : IntKind.i64.wrap ((b0 : Int) - (K : Int)) = (bk : Int) := wsub hbk (by clear e1 e2; omega)
              have E2 : IntKind.i64.wrap ((K : Int) + 1) = (K1 : Int) := wadd1 hK1 (by clear e1 e2 E1; omega)
              clear HX HE1 hK0 hka hKb h50 hbk hK1 hkn hfn
              generalize swp d1 K K0 = d3 at *
              generalize d1[K]! = x at *
              generalize d1[K0]! = y at *
              have cp2 := cell_same cp K
              have cj2 := cell_same cj K0
              go_wp2_with fail
              go_region
              replace HW1 := Lib.hid (show Wr b w ((wr.setCell ⟨b, K, none⟩ (.int .u8 y)).setCell ⟨b, K0, none⟩ (.int .u8 x)).drew from ((HW1.out.set K _).set K0 _).drew)
              clear HR1 HD1
              have HR1 := Lib.hid (show RowB ((wr.setCell ⟨b, K, none⟩ (.int .u8 y)).setCell ⟨b, K0, none⟩ (.int .u8 x)).drew b d3 from HS.out)
              have HD1 := HD3
              clear HS HD3 cj fj cp fp cp2 cj2 f2 f3
              generalize ((wr.setCell ⟨b, K, none⟩ (.int .u8 y)).setCell ⟨b, K0, none⟩ (.int .u8 x)).drew = wr at *
              generalize hd1 : d3 = d1 at *
              clear hd1
              by_cases hB : bk ≥ 2
              · have g2 : (2 : Int) ≤ (bk : Int) := by clear e1 e2 E1 E2; omega
                have g2n : 2 ≤ bk := hB
                by_cases hA : ka ≥ 2
                · have g1 : (2 : Int) ≤ (ka : Int) := by clear e1 e2 E1 E2; omega
                  have g1n : 2 ≤ ka := hA
                  obtain ⟨dX, hdX⟩ : ∃ dX, shiftDown ltInt K0 d1 = dX := ⟨_, rfl⟩
                  have HV := Lib.hid hdX
                  have HP0 := Lib.hid (show partialIns ltInt a0 b0 s K (shiftUp ltInt b0 K1 dX) = partialInsertionSort ltInt d a0 b0 by have := HA.out; rwa [if_pos hB, if_pos hA, hdX] at this)
                  clear hdX hA HA hB
                  go_wp2_with fail
                  clear e1 e2 g1 g1n
                  have HK1 := HK
                  replace HK := Lib.hid (show (1 ≤ K ∧ a0 + 1 ≤ K ∧ K < b0) ∧ K0 < n by clear E1 E2; have := HK1.out; have := HZ.out; omega)
                  go_loopw [9] (fun v wr' => ∃ (J : Nat) (d2 : Array Int), v = .int .i64 J ∧ Hid (J < n) ∧ Hid (Wr b w wr') ∧ Hid (RowB wr' b d2) ∧ Hid (d2.size = n) ∧ Hid (shiftDown ltInt J d2 = dX)) (fun v _ => (intOf v).toNat)
                  case atStart => exact ⟨K0, d1, rfl, Lib.hid (by have := HK.out; have := HF.out; omega), HW1, HR1, HD1, HV⟩
                  case round =>
                    clear HW1 HR1 HD1 HV
                    obtain ⟨J, d1, rfl, hJ, HW1, HR1, HD1, HV⟩ := hrel
                    have hJ' := hJ.out
                    have hf := HF.out
                    have hk := HK.out
                    by_cases hJ0 : 1 ≤ J
                    · have f1 : (1 : Int) ≤ (J : Int) := by omega
                      have f1n : 1 ≤ J := hJ0
                      have f0n : 0 < J := by omega
                      obtain ⟨jp, hjp⟩ : ∃ jp, jp + 1 = J := ⟨J - 1, by omega⟩
                      have f2 : (J : Int) < (n : Int) := by omega
                      have f3 : (jp : Int) < (n : Int) := by omega
                      have HZ := Lib.hid (show J < n ∧ jp < n ∧ jp + 1 = J by omega)
                      obtain ⟨cj, fj⟩ := HR1.out J (by rw [HD1.out]; omega)
                      obtain ⟨cp, fp⟩ := HR1.out jp (by rw [HD1.out]; omega)
                      have e1 : IntKind.i64.wrap ((J : Int) - 1) = (jp : Int) := wsub1 hjp (by omega)
                      by_cases hl : d1[J]! < d1[jp]!
                      · have C := Lib.hid (fun w1 => show Calls Tryd.prog 93 #[.int .u8 d1[J]!, .int .u8 d1[jp]!] w1 fun e w' => e = .returned (.bool true) ∧ w' = w1 by have := Less8_any d1[J]! d1[jp]! w1; rwa [decide_eq_true hl] at this)
                        have HV2 := Lib.hid (show shiftDown ltInt jp (swp d1 J jp) = dX by rw [← HV.out, ← hjp, down_go (by rw [hjp]; exact hl)])
                        have HS := Lib.hid (HR1.out.swap (i := J) (j := jp) (by rw [HD1.out]; have := HZ.out; omega) (by rw [HD1.out]; have := HZ.out; omega))
                        have HD3 := Lib.hid (show (swp d1 J jp).size = n by rw [size_swp]; exact HD1.out)
                        generalize swp d1 J jp = d3 at *
                        generalize d1[J]! = x at *
                        generalize d1[jp]! = y at *
                        clear hl hjp hJ' hf hk HV HR1 HD1 hJ0
                        go_wp2_with fail
                        go_quiet ((go_at_call 93; with_reducible exact Calls.quiet_of_same (C.out _)))
                        go_wp2_with fail
                        replace HS := Lib.hid (show RowB (((wr.drewN nq).setCell ⟨b, J, none⟩ (.int .u8 y)).setCell ⟨b, jp, none⟩ (.int .u8 x)) b d3 from HS.out)
                        replace HW1 := Lib.hid (HW1.out.drewN nq)
                        replace cj : (wr.drewN nq).cell? ⟨b, J, none⟩ = some (.int .u8 x) := cj
                        replace cp : (wr.drewN nq).cell? ⟨b, jp, none⟩ = some (.int .u8 y) := cp
                        replace fj : (wr.drewN nq).frozen? ⟨b, J, none⟩ = false := fj
                        replace fp : (wr.drewN nq).frozen? ⟨b, jp, none⟩ = false := fp
                        generalize wr.drewN nq = wq at *
                        have cp2 := cell_same cp J
                        have cj2 := cell_same cj jp
                        go_region
                        all_goals go_wp2
                        go_roundw
                        case rel => exact ⟨jp, d3, rfl, Lib.hid (by clear e1; have := HZ.out; have := hJ.out; omega), Lib.hid ((HW1.out.set J _).set jp _).drew, HS, HD3, HV2⟩
                        case measure => clear e1; have := HZ.out; have := hJ.out; simp [intOf]; omega
                      · have C := Lib.hid (fun w1 => show Calls Tryd.prog 93 #[.int .u8 d1[J]!, .int .u8 d1[jp]!] w1 fun e w' => e = .returned (.bool false) ∧ w' = w1 by have := Less8_any d1[J]! d1[jp]! w1; rwa [decide_eq_false hl] at this)
                        have HV2 := Lib.hid (show d1 = dX by rw [← HV.out, ← hjp, down_stop (by rw [hjp]; exact hl)])
                        generalize d1[J]! = x at C cj cp
                        generalize d1[jp]! = y at C cj cp
                        clear hl hjp hJ' hf hk HV hJ0
                        go_wp2_with fail
                        go_quiet ((go_at_call 93; with_reducible exact Calls.quiet_of_same (C.out _)))
                        go_wp2_with fail
                        replace HW1 := Lib.hid (HW1.out.drewN nq)
                        replace HR1 := Lib.hid (show RowB (wr.drewN nq) b d1 from HR1.out)
                        clear cj cp fj fp C e1 f1 f2 f3 f1n f0n HZ
                        generalize wr.drewN nq = wr at *
                        replace HK := HK1
                        clear g2 g2n
                        obtain ⟨dY, hdY⟩ : ∃ dY, shiftUp ltInt b0 K1 d1 = dY := ⟨_, rfl⟩
                        have HP := Lib.hid (show partialIns ltInt a0 b0 s K dY = partialInsertionSort ltInt d a0 b0 by rw [← hdY]; first | exact HP0.out | (rw [HV2.out]; exact HP0.out))
                        have HV := Lib.hid hdY
                        clear HP0 HV2 hdY
                        replace HK := Lib.hid (show 1 ≤ K1 ∧ K1 ≤ b0 ∧ a0 + 1 ≤ K ∧ K < b0 by clear E1 E2; have := HK.out; have := HKK1.out; omega)
                        go_loopw [10] (fun v wr' => ∃ (J : Nat) (d2 : Array Int), v = .int .i64 J ∧ Hid (J ≤ b0 ∧ 1 ≤ J) ∧ Hid (Wr b w wr') ∧ Hid (RowB wr' b d2) ∧ Hid (d2.size = n) ∧ Hid (shiftUp ltInt b0 J d2 = dY)) (fun v _ => b0 - (intOf v).toNat)
                        case atStart => exact ⟨K1, d1, rfl, Lib.hid (by have := HK.out; have := HF.out; omega), HW1, HR1, HD1, HV⟩
                        case round =>
                          clear HW1 HR1 HD1 HV
                          obtain ⟨J, d1, rfl, hJ, HW1, HR1, HD1, HV⟩ := hrel
                          have hJ' := hJ.out
                          have hf := HF.out
                          have hk := HK.out
                          by_cases hJ0 : J < b0
                          · have f1 : (J : Int) < (b0 : Int) := by omega
                            have f1n : J < b0 := hJ0
                            have f0n : 0 < J := by omega
                            obtain ⟨jp, hjp⟩ : ∃ jp, jp + 1 = J := ⟨J - 1, by omega⟩
                            have f2 : (J : Int) < (n : Int) := by omega
                            have f3 : (jp : Int) < (n : Int) := by omega
                            have HZ := Lib.hid (show J < n ∧ jp < n ∧ jp + 1 = J by omega)
                            obtain ⟨cj, fj⟩ := HR1.out J (by rw [HD1.out]; omega)
                            obtain ⟨cp, fp⟩ := HR1.out jp (by rw [HD1.out]; omega)
                            have e1 : IntKind.i64.wrap ((J : Int) - 1) = (jp : Int) := wsub1 hjp (by omega)
                            by_cases hl : d1[J]! < d1[jp]!
                            · have C := Lib.hid (fun w1 => show Calls Tryd.prog 93 #[.int .u8 d1[J]!, .int .u8 d1[jp]!] w1 fun e w' => e = .returned (.bool true) ∧ w' = w1 by have := Less8_any d1[J]! d1[jp]! w1; rwa [decide_eq_true hl] at this)
                              have HV2 := Lib.hid (show shiftUp ltInt b0 (J + 1) (swp d1 J jp) = dY by rw [← HV.out, up_go hJ0 (by rw [show J - 1 = jp by omega]; exact hl), show J - 1 = jp by omega])
                              have e2 : IntKind.i64.wrap ((J : Int) + 1) = ((J + 1 : Nat) : Int) := wadd1 rfl (by clear e1; omega)
                              have HS := Lib.hid (HR1.out.swap (i := J) (j := jp) (by rw [HD1.out]; have := HZ.out; omega) (by rw [HD1.out]; have := HZ.out; omega))
                              have HD3 := Lib.hid (show (swp d1 J jp).size = n by rw [size_swp]; exact HD1.out)
                              generalize swp d1 J jp = d3 at *
                              generalize d1[J]! = x at *
                              generalize d1[jp]! = y at *
                              clear hl hjp hJ' hf hk HV HR1 HD1 hJ0
                              go_wp2_with fail
                              go_quiet ((go_at_call 93; with_reducible exact Calls.quiet_of_same (C.out _)))
                              go_wp2_with fail
                              replace HS := Lib.hid (show RowB (((wr.drewN nq).setCell ⟨b, J, none⟩ (.int .u8 y)).setCell ⟨b, jp, none⟩ (.int .u8 x)) b d3 from HS.out)
                              replace HW1 := Lib.hid (HW1.out.drewN nq)
                              replace cj : (wr.drewN nq).cell? ⟨b, J, none⟩ = some (.int .u8 x) := cj
                              replace cp : (wr.drewN nq).cell? ⟨b, jp, none⟩ = some (.int .u8 y) := cp
                              replace fj : (wr.drewN nq).frozen? ⟨b, J, none⟩ = false := fj
                              replace fp : (wr.drewN nq).frozen? ⟨b, jp, none⟩ = false := fp
                              generalize wr.drewN nq = wq at *
                              have cp2 := cell_same cp J
                              have cj2 := cell_same cj jp
                              go_region
                              all_goals go_wp2
                              go_roundw
                              case rel => exact ⟨J + 1, d3, by go_num, Lib.hid (by clear e1 e2; have := HZ.out; have := hJ.out; omega), Lib.hid ((HW1.out.set J _).set jp _).drew, HS, HD3, HV2⟩
                              case measure => clear e1 e2; have := HZ.out; have := hJ.out; simp [intOf]; omega
                            · have C := Lib.hid (fun w1 => show Calls Tryd.prog 93 #[.int .u8 d1[J]!, .int .u8 d1[jp]!] w1 fun e w' => e = .returned (.bool false) ∧ w' = w1 by have := Less8_any d1[J]! d1[jp]! w1; rwa [decide_eq_false hl] at this)
                              have HV2 := Lib.hid (show d1 = dY by rw [← HV.out, up_stop (by rw [show J - 1 = jp by omega]; exact hl)])
                              generalize d1[J]! = x at C cj cp
                              generalize d1[jp]! = y at C cj cp
                              clear hl hjp hJ' hf hk HV hJ0
                              go_wp2_with fail
                              go_quiet ((go_at_call 93; with_reducible exact Calls.quiet_of_same (C.out _)))
                              go_wp2_with fail
                              replace HW1 := Lib.hid (HW1.out.drewN nq)
                              replace HR1 := Lib.hid (show RowB (wr.drewN nq) b d1 from HR1.out)
                              clear cj cp fj fp C e1 f1 f2 f3 f1n f0n HZ
                              generalize wr.drewN nq = wr at *
                              have HP2 := Lib.hid (show partialIns ltInt a0 b0 s K d1 = partialInsertionSort ltInt d a0 b0 by first | exact HP.out | (rw [HV2.out]; exact HP.out))
                              clear HP HV2
                              go_roundw
                              case rel => exact ⟨s, t + 1, K, d1, rfl, by go_num, Lib.hid (by clear E1 E2; have := hst.out; omega), Lib.hid (by clear E1 E2; have := HK.out; have := HF.out; omega), HW1, HR1, HD1, HP2⟩
                              case measure => clear E1 E2; have := hst.out; simp [intOf]; omega
                          · have f1 : ¬ (J : Int) < (b0 : Int) := by omega
                            have f1n : ¬ J < b0 := hJ0
                            have HV2 := Lib.hid (show d1 = dY by rw [← HV.out, up_end hJ0])
                            clear hJ' hf hk HV hJ0
                            go_wp2_with fail
                            have HP2 := Lib.hid (show partialIns ltInt a0 b0 s K d1 = partialInsertionSort ltInt d a0 b0 by first | exact HP.out | (rw [HV2.out]; exact HP.out))
                            clear HP HV2
                            go_roundw
                            case rel => exact ⟨s, t + 1, K, d1, rfl, by go_num, Lib.hid (by clear E1 E2; have := hst.out; omega), Lib.hid (by clear E1 E2; have := HK.out; have := HF.out; omega), HW1, HR1, HD1, HP2⟩
                            case measure => clear E1 E2; have := hst.out; simp [intOf]; omega
                    · have f1 : ¬ (1 : Int) ≤ (J : Int) := by omega
                      have f1n : ¬ 1 ≤ J := hJ0
                      have HV2 := Lib.hid (show d1 = dX by rw [← HV.out, show J = 0 by omega]; rfl)
                      obtain rfl : J = 0 := by omega
                      clear hJ' hf hk HV hJ0
                      go_wp2_with fail
                      replace HK := HK1
                      clear g2 g2n
                      obtain ⟨dY, hdY⟩ : ∃ dY, shiftUp ltInt b0 K1 d1 = dY := ⟨_, rfl⟩
                      have HP := Lib.hid (show partialIns ltInt a0 b0 s K dY = partialInsertionSort ltInt d a0 b0 by rw [← hdY]; first | exact HP0.out | (rw [HV2.out]; exact HP0.out))
                      have HV := Lib.hid hdY
                      clear HP0 HV2 hdY
                      replace HK := Lib.hid (show 1 ≤ K1 ∧ K1 ≤ b0 ∧ a0 + 1 ≤ K ∧ K < b0 by clear E1 E2; have := HK.out; have := HKK1.out; omega)
                      go_loopw [10] (fun v wr' => ∃ (J : Nat) (d2 : Array Int), v = .int .i64 J ∧ Hid (J ≤ b0 ∧ 1 ≤ J) ∧ Hid (Wr b w wr') ∧ Hid (RowB wr' b d2) ∧ Hid (d2.size = n) ∧ Hid (shiftUp ltInt b0 J d2 = dY)) (fun v _ => b0 - (intOf v).toNat)
                      case atStart => exact ⟨K1, d1, rfl, Lib.hid (by have := HK.out; have := HF.out; omega), HW1, HR1, HD1, HV⟩
                      case round =>
                        clear HW1 HR1 HD1 HV
                        obtain ⟨J, d1, rfl, hJ, HW1, HR1, HD1, HV⟩ := hrel
                        have hJ' := hJ.out
                        have hf := HF.out
                        have hk := HK.out
                        by_cases hJ0 : J < b0
                        · have f1 : (J : Int) < (b0 : Int) := by omega
                          have f1n : J < b0 := hJ0
                          have f0n : 0 < J := by omega
                          obtain ⟨jp, hjp⟩ : ∃ jp, jp + 1 = J := ⟨J - 1, by omega⟩
                          have f2 : (J : Int) < (n : Int) := by omega
                          have f3 : (jp : Int) < (n : Int) := by omega
                          have HZ := Lib.hid (show J < n ∧ jp < n ∧ jp + 1 = J by omega)
                          obtain ⟨cj, fj⟩ := HR1.out J (by rw [HD1.out]; omega)
                          obtain ⟨cp, fp⟩ := HR1.out jp (by rw [HD1.out]; omega)
                          have e1 : IntKind.i64.wrap ((J : Int) - 1) = (jp : Int) := wsub1 hjp (by omega)
                          by_cases hl : d1[J]! < d1[jp]!
                          · have C := Lib.hid (fun w1 => show Calls Tryd.prog 93 #[.int .u8 d1[J]!, .int .u8 d1[jp]!] w1 fun e w' => e = .returned (.bool true) ∧ w' = w1 by have := Less8_any d1[J]! d1[jp]! w1; rwa [decide_eq_true hl] at this)
                            have HV2 := Lib.hid (show shiftUp ltInt b0 (J + 1) (swp d1 J jp) = dY by rw [← HV.out, up_go hJ0 (by rw [show J - 1 = jp by omega]; exact hl), show J - 1 = jp by omega])
                            have e2 : IntKind.i64.wrap ((J : Int) + 1) = ((J + 1 : Nat) : Int) := wadd1 rfl (by clear e1; omega)
                            have HS := Lib.hid (HR1.out.swap (i := J) (j := jp) (by rw [HD1.out]; have := HZ.out; omega) (by rw [HD1.out]; have := HZ.out; omega))
                            have HD3 := Lib.hid (show (swp d1 J jp).size = n by rw [size_swp]; exact HD1.out)
                            generalize swp d1 J jp = d3 at *
                            generalize d1[J]! = x at *
                            generalize d1[jp]! = y at *
                            clear hl hjp hJ' hf hk HV HR1 HD1 hJ0
                            go_wp2_with fail
                            go_quiet ((go_at_call 93; with_reducible exact Calls.quiet_of_same (C.out _)))
                            go_wp2_with fail
                            replace HS := Lib.hid (show RowB (((wr.drewN nq).setCell ⟨b, J, none⟩ (.int .u8 y)).setCell ⟨b, jp, none⟩ (.int .u8 x)) b d3 from HS.out)
                            replace HW1 := Lib.hid (HW1.out.drewN nq)
                            replace cj : (wr.drewN nq).cell? ⟨b, J, none⟩ = some (.int .u8 x) := cj
                            replace cp : (wr.drewN nq).cell? ⟨b, jp, none⟩ = some (.int .u8 y) := cp
                            replace fj : (wr.drewN nq).frozen? ⟨b, J, none⟩ = false := fj
                            replace fp : (wr.drewN nq).frozen? ⟨b, jp, none⟩ = false := fp
                            generalize wr.drewN nq = wq at *
                            have cp2 := cell_same cp J
                            have cj2 := cell_same cj jp
                            go_region
                            all_goals go_wp2
                            go_roundw
                            case rel => exact ⟨J + 1, d3, by go_num, Lib.hid (by clear e1 e2; have := HZ.out; have := hJ.out; omega), Lib.hid ((HW1.out.set J _).set jp _).drew, HS, HD3, HV2⟩
                            case measure => clear e1 e2; have := HZ.out; have := hJ.out; simp [intOf]; omega
                          · have C := Lib.hid (fun w1 => show Calls Tryd.prog 93 #[.int .u8 d1[J]!, .int .u8 d1[jp]!] w1 fun e w' => e = .returned (.bool false) ∧ w' = w1 by have := Less8_any d1[J]! d1[jp]! w1; rwa [decide_eq_false hl] at this)
                            have HV2 := Lib.hid (show d1 = dY by rw [← HV.out, up_stop (by rw [show J - 1 = jp by omega]; exact hl)])
                            generalize d1[J]! = x at C cj cp
                            generalize d1[jp]! = y at C cj cp
                            clear hl hjp hJ' hf hk HV hJ0
                            go_wp2_with fail
                            go_quiet ((go_at_call 93; with_reducible exact Calls.quiet_of_same (C.out _)))
                            go_wp2_with fail
                            replace HW1 := Lib.hid (HW1.out.drewN nq)
                            replace HR1 := Lib.hid (show RowB (wr.drewN nq) b d1 from HR1.out)
                            clear cj cp fj fp C e1 f1 f2 f3 f1n f0n HZ
                            generalize wr.drewN nq = wr at *
                            have HP2 := Lib.hid (show partialIns ltInt a0 b0 s K d1 = partialInsertionSort ltInt d a0 b0 by first | exact HP.out | (rw [HV2.out]; exact HP.out))
                            clear HP HV2
                            go_roundw
                            case rel => exact ⟨s, t + 1, K, d1, rfl, by go_num, Lib.hid (by clear E1 E2; have := hst.out; omega), Lib.hid (by clear E1 E2; have := HK.out; have := HF.out; omega), HW1, HR1, HD1, HP2⟩
                            case measure => clear E1 E2; have := hst.out; simp [intOf]; omega
                        · have f1 : ¬ (J : Int) < (b0 : Int) := by omega
                          have f1n : ¬ J < b0 := hJ0
                          have HV2 := Lib.hid (show d1 = dY by rw [← HV.out, up_end hJ0])
                          clear hJ' hf hk HV hJ0
                          go_wp2_with fail
                          have HP2 := Lib.hid (show partialIns ltInt a0 b0 s K d1 = partialInsertionSort ltInt d a0 b0 by first | exact HP.out | (rw [HV2.out]; exact HP.out))
                          clear HP HV2
                          go_roundw
                          case rel => exact ⟨s, t + 1, K, d1, rfl, by go_num, Lib.hid (by clear E1 E2; have := hst.out; omega), Lib.hid (by clear E1 E2; have := HK.out; have := HF.out; omega), HW1, HR1, HD1, HP2⟩
                          case measure => clear E1 E2; have := hst.out; simp [intOf]; omega
                · have g1 : ¬ (2 : Int) ≤ (ka : Int) := by clear e1 e2 E1 E2; omega
                  have g1n : ¬ 2 ≤ ka := hA
                  have HP0 := Lib.hid (show partialIns ltInt a0 b0 s K (shiftUp ltInt b0 K1 d1) = partialInsertionSort ltInt d a0 b0 by have := HA.out; rwa [if_pos hB, if_neg hA] at this)
                  have HV2 := Lib.hid (show d1 = d1 from rfl)
                  clear hA HA hB
                  go_wp2_with fail
                  clear e1 e2 g1 g1n g2 g2n
                  obtain ⟨dY, hdY⟩ : ∃ dY, shiftUp ltInt b0 K1 d1 = dY := ⟨_, rfl⟩
                  have HP := Lib.hid (show partialIns ltInt a0 b0 s K dY = partialInsertionSort ltInt d a0 b0 by rw [← hdY]; first | exact HP0.out | (rw [HV2.out]; exact HP0.out))
                  have HV := Lib.hid hdY
                  clear HP0 HV2 hdY
                  replace HK := Lib.hid (show 1 ≤ K1 ∧ K1 ≤ b0 ∧ a0 + 1 ≤ K ∧ K < b0 by clear E1 E2; have := HK.out; have := HKK1.out; omega)
                  go_loopw [10] (fun v wr' => ∃ (J : Nat) (d2 : Array Int), v = .int .i64 J ∧ Hid (J ≤ b0 ∧ 1 ≤ J) ∧ Hid (Wr b w wr') ∧ Hid (RowB wr' b d2) ∧ Hid (d2.size = n) ∧ Hid (shiftUp ltInt b0 J d2 = dY)) (fun v _ => b0 - (intOf v).toNat)
                  case atStart => exact ⟨K1, d1, rfl, Lib.hid (by have := HK.out; have := HF.out; omega), HW1, HR1, HD1, HV⟩
                  case round =>
                    clear HW1 HR1 HD1 HV
                    obtain ⟨J, d1, rfl, hJ, HW1, HR1, HD1, HV⟩ := hrel
                    have hJ' := hJ.out
                    have hf := HF.out
                    have hk := HK.out
                    by_cases hJ0 : J < b0
                    · have f1 : (J : Int) < (b0 : Int) := by omega
                      have f1n : J < b0 := hJ0
                      have f0n : 0 < J := by omega
                      obtain ⟨jp, hjp⟩ : ∃ jp, jp + 1 = J := ⟨J - 1, by omega⟩
                      have f2 : (J : Int) < (n : Int) := by omega
                      have f3 : (jp : Int) < (n : Int) := by omega
                      have HZ := Lib.hid (show J < n ∧ jp < n ∧ jp + 1 = J by omega)
                      obtain ⟨cj, fj⟩ := HR1.out J (by rw [HD1.out]; omega)
                      obtain ⟨cp, fp⟩ := HR1.out jp (by rw [HD1.out]; omega)
                      have e1 : IntKind.i64.wrap ((J : Int) - 1) = (jp : Int) := wsub1 hjp (by omega)
                      by_cases hl : d1[J]! < d1[jp]!
                      · have C := Lib.hid (fun w1 => show Calls Tryd.prog 93 #[.int .u8 d1[J]!, .int .u8 d1[jp]!] w1 fun e w' => e = .returned (.bool true) ∧ w' = w1 by have := Less8_any d1[J]! d1[jp]! w1; rwa [decide_eq_true hl] at this)
                        have HV2 := Lib.hid (show shiftUp ltInt b0 (J + 1) (swp d1 J jp) = dY by rw [← HV.out, up_go hJ0 (by rw [show J - 1 = jp by omega]; exact hl), show J - 1 = jp by omega])
                        have e2 : IntKind.i64.wrap ((J : Int) + 1) = ((J + 1 : Nat) : Int) := wadd1 rfl (by clear e1; omega)
                        have HS := Lib.hid (HR1.out.swap (i := J) (j := jp) (by rw [HD1.out]; have := HZ.out; omega) (by rw [HD1.out]; have := HZ.out; omega))
                        have HD3 := Lib.hid (show (swp d1 J jp).size = n by rw [size_swp]; exact HD1.out)
                        generalize swp d1 J jp = d3 at *
                        generalize d1[J]! = x at *
                        generalize d1[jp]! = y at *
                        clear hl hjp hJ' hf hk HV HR1 HD1 hJ0
                        go_wp2_with fail
                        go_quiet ((go_at_call 93; with_reducible exact Calls.quiet_of_same (C.out _)))
                        go_wp2_with fail
                        replace HS := Lib.hid (show RowB (((wr.drewN nq).setCell ⟨b, J, none⟩ (.int .u8 y)).setCell ⟨b, jp, none⟩ (.int .u8 x)) b d3 from HS.out)
                        replace HW1 := Lib.hid (HW1.out.drewN nq)
                        replace cj : (wr.drewN nq).cell? ⟨b, J, none⟩ = some (.int .u8 x) := cj
                        replace cp : (wr.drewN nq).cell? ⟨b, jp, none⟩ = some (.int .u8 y) := cp
                        replace fj : (wr.drewN nq).frozen? ⟨b, J, none⟩ = false := fj
                        replace fp : (wr.drewN nq).frozen? ⟨b, jp, none⟩ = false := fp
                        generalize wr.drewN nq = wq at *
                        have cp2 := cell_same cp J
                        have cj2 := cell_same cj jp
                        go_region
                        all_goals go_wp2
                        go_roundw
                        case rel => exact ⟨J + 1, d3, by go_num, Lib.hid (by clear e1 e2; have := HZ.out; have := hJ.out; omega), Lib.hid ((HW1.out.set J _).set jp _).drew, HS, HD3, HV2⟩
                        case measure => clear e1 e2; have := HZ.out; have := hJ.out; simp [intOf]; omega
                      · have C := Lib.hid (fun w1 => show Calls Tryd.prog 93 #[.int .u8 d1[J]!, .int .u8 d1[jp]!] w1 fun e w' => e = .returned (.bool false) ∧ w' = w1 by have := Less8_any d1[J]! d1[jp]! w1; rwa [decide_eq_false hl] at this)
                        have HV2 := Lib.hid (show d1 = dY by rw [← HV.out, up_stop (by rw [show J - 1 = jp by omega]; exact hl)])
                        generalize d1[J]! = x at C cj cp
                        generalize d1[jp]! = y at C cj cp
                        clear hl hjp hJ' hf hk HV hJ0
                        go_wp2_with fail
                        go_quiet ((go_at_call 93; with_reducible exact Calls.quiet_of_same (C.out _)))
                        go_wp2_with fail
                        replace HW1 := Lib.hid (HW1.out.drewN nq)
                        replace HR1 := Lib.hid (show RowB (wr.drewN nq) b d1 from HR1.out)
                        clear cj cp fj fp C e1 f1 f2 f3 f1n f0n HZ
                        generalize wr.drewN nq = wr at *
                        have HP2 := Lib.hid (show partialIns ltInt a0 b0 s K d1 = partialInsertionSort ltInt d a0 b0 by first | exact HP.out | (rw [HV2.out]; exact HP.out))
                        clear HP HV2
                        go_roundw
                        case rel => exact ⟨s, t + 1, K, d1, rfl, by go_num, Lib.hid (by clear E1 E2; have := hst.out; omega), Lib.hid (by clear E1 E2; have := HK.out; have := HF.out; omega), HW1, HR1, HD1, HP2⟩
                        case measure => clear E1 E2; have := hst.out; simp [intOf]; omega
                    · have f1 : ¬ (J : Int) < (b0 : Int) := by omega
                      have f1n : ¬ J < b0 := hJ0
                      have HV2 := Lib.hid (show d1 = dY by rw [← HV.out, up_end hJ0])
                      clear hJ' hf hk HV hJ0
                      go_wp2_with fail
                      have HP2 := Lib.hid (show partialIns ltInt a0 b0 s K d1 = partialInsertionSort ltInt d a0 b0 by first | exact HP.out | (rw [HV2.out]; exact HP.out))
                      clear HP HV2
                      go_roundw
                      case rel => exact ⟨s, t + 1, K, d1, rfl, by go_num, Lib.hid (by clear E1 E2; have := hst.out; omega), Lib.hid (by clear E1 E2; have := HK.out; have := HF.out; omega), HW1, HR1, HD1, HP2⟩
                      case measure => clear E1 E2; have := hst.out; simp [intOf]; omega
              · have g2 : ¬ (2 : Int) ≤ (bk : Int) := by clear e1 e2 E1 E2; omega
                have g2n : ¬ 2 ≤ bk := hB
                by_cases hA : ka ≥ 2
                · have g1 : (2 : Int) ≤ (ka : Int) := by clear e1 e2 E1 E2; omega
                  have g1n : 2 ≤ ka := hA
                  obtain ⟨dX, hdX⟩ : ∃ dX, shiftDown ltInt K0 d1 = dX := ⟨_, rfl⟩
                  have HV := Lib.hid hdX
                  have HP0 := Lib.hid (show partialIns ltInt a0 b0 s K (dX) = partialInsertionSort ltInt d a0 b0 by have := HA.out; rwa [if_neg hB, if_pos hA, hdX] at this)
                  clear hdX hA HA hB
                  go_wp2_with fail
                  clear e1 e2 g1 g1n
                  have HK1 := HK
                  replace HK := Lib.hid (show (1 ≤ K ∧ a0 + 1 ≤ K ∧ K < b0) ∧ K0 < n by clear E1 E2; have := HK1.out; have := HZ.out; omega)
                  go_loopw [9] (fun v wr' => ∃ (J : Nat) (d2 : Array Int), v = .int .i64 J ∧ Hid (J < n) ∧ Hid (Wr b w wr') ∧ Hid (RowB wr' b d2) ∧ Hid (d2.size = n) ∧ Hid (shiftDown ltInt J d2 = dX)) (fun v _ => (intOf v).toNat)
                  case atStart => exact ⟨K0, d1, rfl, Lib.hid (by have := HK.out; have := HF.out; omega), HW1, HR1, HD1, HV⟩
                  case round =>
                    clear HW1 HR1 HD1 HV
                    obtain ⟨J, d1, rfl, hJ, HW1, HR1, HD1, HV⟩ := hrel
                    have hJ' := hJ.out
                    have hf := HF.out
                    have hk := HK.out
                    by_cases hJ0 : 1 ≤ J
                    · have f1 : (1 : Int) ≤ (J : Int) := by omega
                      have f1n : 1 ≤ J := hJ0
                      have f0n : 0 < J := by omega
                      obtain ⟨jp, hjp⟩ : ∃ jp, jp + 1 = J := ⟨J - 1, by omega⟩
                      have f2 : (J : Int) < (n : Int) := by omega
                      have f3 : (jp : Int) < (n : Int) := by omega
                      have HZ := Lib.hid (show J < n ∧ jp < n ∧ jp + 1 = J by omega)
                      obtain ⟨cj, fj⟩ := HR1.out J (by rw [HD1.out]; omega)
                      obtain ⟨cp, fp⟩ := HR1.out jp (by rw [HD1.out]; omega)
                      have e1 : IntKind.i64.wrap ((J : Int) - 1) = (jp : Int) := wsub1 hjp (by omega)
                      by_cases hl : d1[J]! < d1[jp]!
                      · have C := Lib.hid (fun w1 => show Calls Tryd.prog 93 #[.int .u8 d1[J]!, .int .u8 d1[jp]!] w1 fun e w' => e = .returned (.bool true) ∧ w' = w1 by have := Less8_any d1[J]! d1[jp]! w1; rwa [decide_eq_true hl] at this)
                        have HV2 := Lib.hid (show shiftDown ltInt jp (swp d1 J jp) = dX by rw [← HV.out, ← hjp, down_go (by rw [hjp]; exact hl)])
                        have HS := Lib.hid (HR1.out.swap (i := J) (j := jp) (by rw [HD1.out]; have := HZ.out; omega) (by rw [HD1.out]; have := HZ.out; omega))
                        have HD3 := Lib.hid (show (swp d1 J jp).size = n by rw [size_swp]; exact HD1.out)
                        generalize swp d1 J jp = d3 at *
                        generalize d1[J]! = x at *
                        generalize d1[jp]! = y at *
                        clear hl hjp hJ' hf hk HV HR1 HD1 hJ0
                        go_wp2_with fail
                        go_quiet ((go_at_call 93; with_reducible exact Calls.quiet_of_same (C.out _)))
                        go_wp2_with fail
                        replace HS := Lib.hid (show RowB (((wr.drewN nq).setCell ⟨b, J, none⟩ (.int .u8 y)).setCell ⟨b, jp, none⟩ (.int .u8 x)) b d3 from HS.out)
                        replace HW1 := Lib.hid (HW1.out.drewN nq)
                        replace cj : (wr.drewN nq).cell? ⟨b, J, none⟩ = some (.int .u8 x) := cj
                        replace cp : (wr.drewN nq).cell? ⟨b, jp, none⟩ = some (.int .u8 y) := cp
                        replace fj : (wr.drewN nq).frozen? ⟨b, J, none⟩ = false := fj
                        replace fp : (wr.drewN nq).frozen? ⟨b, jp, none⟩ = false := fp
                        generalize wr.drewN nq = wq at *
                        have cp2 := cell_same cp J
                        have cj2 := cell_same cj jp
                        go_region
                        all_goals go_wp2
                        go_roundw
                        case rel => exact ⟨jp, d3, rfl, Lib.hid (by clear e1; have := HZ.out; have := hJ.out; omega), Lib.hid ((HW1.out.set J _).set jp _).drew, HS, HD3, HV2⟩
                        case measure => clear e1; have := HZ.out; have := hJ.out; simp [intOf]; omega
                      · have C := Lib.hid (fun w1 => show Calls Tryd.prog 93 #[.int .u8 d1[J]!, .int .u8 d1[jp]!] w1 fun e w' => e = .returned (.bool false) ∧ w' = w1 by have := Less8_any d1[J]! d1[jp]! w1; rwa [decide_eq_false hl] at this)
                        have HV2 := Lib.hid (show d1 = dX by rw [← HV.out, ← hjp, down_stop (by rw [hjp]; exact hl)])
                        generalize d1[J]! = x at C cj cp
                        generalize d1[jp]! = y at C cj cp
                        clear hl hjp hJ' hf hk HV hJ0
                        go_wp2_with fail
                        go_quiet ((go_at_call 93; with_reducible exact Calls.quiet_of_same (C.out _)))
                        go_wp2_with fail
                        replace HW1 := Lib.hid (HW1.out.drewN nq)
                        replace HR1 := Lib.hid (show RowB (wr.drewN nq) b d1 from HR1.out)
                        clear cj cp fj fp C e1 f1 f2 f3 f1n f0n HZ
                        generalize wr.drewN nq = wr at *
                        replace HK := HK1
                        clear g2 g2n
                        have HP := Lib.hid (show partialIns ltInt a0 b0 s K d1 = partialInsertionSort ltInt d a0 b0 by first | exact HP0.out | (rw [HV2.out]; exact HP0.out))
                        replace HV2 := Lib.hid (show d1 = d1 from rfl)
                        clear HP0
                        have HP2 := Lib.hid (show partialIns ltInt a0 b0 s K d1 = partialInsertionSort ltInt d a0 b0 by first | exact HP.out | (rw [HV2.out]; exact HP.out))
                        clear HP HV2
                        go_roundw
                        case rel => exact ⟨s, t + 1, K, d1, rfl, by go_num, Lib.hid (by clear E1 E2; have := hst.out; omega), Lib.hid (by clear E1 E2; have := HK.out; have := HF.out; omega), HW1, HR1, HD1, HP2⟩
                        case measure => clear E1 E2; have := hst.out; simp [intOf]; omega
                    · have f1 : ¬ (1 : Int) ≤ (J : Int) := by omega
                      have f1n : ¬ 1 ≤ J := hJ0
                      have HV2 := Lib.hid (show d1 = dX by rw [← HV.out, show J = 0 by omega]; rfl)
                      obtain rfl : J = 0 := by omega
                      clear hJ' hf hk HV hJ0
                      go_wp2_with fail
                      replace HK := HK1
                      clear g2 g2n
                      have HP := Lib.hid (show partialIns ltInt a0 b0 s K d1 = partialInsertionSort ltInt d a0 b0 by first | exact HP0.out | (rw [HV2.out]; exact HP0.out))
                      replace HV2 := Lib.hid (show d1 = d1 from rfl)
                      clear HP0
                      have HP2 := Lib.hid (show partialIns ltInt a0 b0 s K d1 = partialInsertionSort ltInt d a0 b0 by first | exact HP.out | (rw [HV2.out]; exact HP.out))
                      clear HP HV2
                      go_roundw
                      case rel => exact ⟨s, t + 1, K, d1, rfl, by go_num, Lib.hid (by clear E1 E2; have := hst.out; omega), Lib.hid (by clear E1 E2; have := HK.out; have := HF.out; omega), HW1, HR1, HD1, HP2⟩
                      case measure => clear E1 E2; have := hst.out; simp [intOf]; omega
                · have g1 : ¬ (2 : Int) ≤ (ka : Int) := by clear e1 e2 E1 E2; omega
                  have g1n : ¬ 2 ≤ ka := hA
                  have HP0 := Lib.hid (show partialIns ltInt a0 b0 s K (d1) = partialInsertionSort ltInt d a0 b0 by have := HA.out; rwa [if_neg hB, if_neg hA] at this)
                  have HV2 := Lib.hid (show d1 = d1 from rfl)
                  clear hA HA hB
                  go_wp2_with fail
                  clear e1 e2 g1 g1n g2 g2n
                  have HP := Lib.hid (show partialIns ltInt a0 b0 s K d1 = partialInsertionSort ltInt d a0 b0 by first | exact HP0.out | (rw [HV2.out]; exact HP0.out))
                  replace HV2 := Lib.hid (show d1 = d1 from rfl)
                  clear HP0
                  have HP2 := Lib.hid (show partialIns ltInt a0 b0 s K d1 = partialInsertionSort ltInt d a0 b0 by first | exact HP.out | (rw [HV2.out]; exact HP.out))
                  clear HP HV2
                  go_roundw
                  case rel => exact ⟨s, t + 1, K, d1, rfl, by go_num, Lib.hid (by clear E1 E2; have := hst.out; omega), Lib.hid (by clear E1 E2; have := HK.out; have := HF.out; omega), HW1, HR1, HD1, HP2⟩
                  case measure => clear E1 E2; have := hst.out; simp [intOf]; omega
          · have C := Lib.hid (fun w1 => show Calls Tryd.prog 93 #[.int .u8 d1[k]!, .int .u8 d1[kp]!] w1 fun e w' => e = .returned (.bool false) ∧ w' = w1 by have := Less8_any d1[k]! d1[kp]! w1; rwa [decide_eq_false hl] at this)
            have HK2 := Lib.hid (show scanSorted ltInt d1 b0 (k + 1) = scanSorted ltInt d1 b0 K by rw [← HKK.out]; exact (sorted_go hkb (by rw [show k - 1 = kp by clear s2 e1 e2; omega]; exact hl)).symm)
            have HM := Lib.hid hkb
            generalize d1[k]! = x at C cj cp
            generalize d1[kp]! = y at C cj cp
            clear hl hkp HKK
            go_wp2_with fail
            go_quiet ((go_at_call 93; with_reducible exact Calls.quiet_of_same (C.out _)))
            go_wp2_with fail
            go_roundw
            case rel => exact ⟨k + 1, by go_num, Lib.hid (by clear s2 e1 e2; have := hk.out; have := HM.out; omega), Lib.hid (HW1.out.drewN _), HR1, HK2⟩
            case measure => clear s2 e1 e2; have := HM.out; simp [intOf]; omega
        · obtain rfl : k = b0 := by clear s2; have := hk.out; omega
          have HX := Lib.hid (show scanSorted ltInt d1 k K = k by rw [← HKK.out]; exact sorted_end hkb)
          have HP := Lib.hid (show partialInsertionSort ltInt d a0 k = (d1, true) by
            have := HE1.out
            rw [partialIns_succ] at this
            simp only [HX.out, if_true] at this
            exact this.symm)
          have kb : ((k : Int) == (k : Int)) = true := by simp
          clear HE1 HX HKK
          go_wp2_with fail
          go_quiet (fail)
          replace HW1 := Lib.hid (HW1.out.drewN nq)
          replace HR1 := Lib.hid (show RowB (wr.drewN nq) b d1 from HR1.out)
          generalize wr.drewN nq = wr at *
          go_wp2_with fail
          go_ret
          rw [HP.out]
          exact ⟨rfl, HW1.out, HR1.out⟩

end Go.Proofs.YtehdemcfeoiecaaDoor
