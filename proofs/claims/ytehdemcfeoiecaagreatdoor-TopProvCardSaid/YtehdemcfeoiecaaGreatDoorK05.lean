import Derived.Sort.LotD4
import Derived.Sort.WalkA14
import Derived.Test.YtehdemcfeoiecaaGreatDoorK04
set_option maxHeartbeats 64000000
set_option maxRecDepth 100000
namespace Go.Proofs.YtehdemcfeoiecaaGreatDoor
open Go.RowKit Go.Firn Go.Sort
theorem sorted_go {d : Array Int} {b i : Nat} (h : i < b) (hl : ¬ d[i]! < d[i - 1]!) : scanSorted ltInt d b i = scanSorted ltInt d b (i + 1) := by
 conv => lhs; unfold scanSorted
 rw [if_pos (by unfold ltInt; rw [decide_eq_true h, decide_eq_false hl]; rfl)]
theorem sorted_end {d : Array Int} {b i : Nat} (h : ¬ i < b) : scanSorted ltInt d b i = i := by
 unfold scanSorted; rw [if_neg (by rw [decide_eq_false h]; simp)]
theorem sorted_stop {d : Array Int} {b i : Nat} (hl : d[i]! < d[i - 1]!) : scanSorted ltInt d b i = i := by
 unfold scanSorted; rw [if_neg (by unfold ltInt; rw [decide_eq_true hl]; simp)]
theorem down_go {d : Array Int} {j : Nat} (hl : d[j + 1]! < d[j]!) : shiftDown ltInt (j + 1) d = shiftDown ltInt j (swp d (j + 1) j) := by
 conv => lhs; unfold shiftDown
 rw [if_neg (by unfold ltInt; rw [decide_eq_true hl]; simp)]
theorem down_stop {d : Array Int} {j : Nat} (hl : ¬ d[j + 1]! < d[j]!) : shiftDown ltInt (j + 1) d = d := by
 unfold shiftDown; rw [if_pos (by unfold ltInt; rw [decide_eq_false hl]; simp)]
theorem up_go {d : Array Int} {b j : Nat} (h : j < b) (hl : d[j]! < d[j - 1]!) : shiftUp ltInt b j d = shiftUp ltInt b (j + 1) (swp d j (j - 1)) := by
 conv => lhs; unfold shiftUp
 rw [if_pos h, if_neg (by unfold ltInt; rw [decide_eq_true hl]; simp)]
theorem up_stop {d : Array Int} {b j : Nat} (hl : ¬ d[j]! < d[j - 1]!) : shiftUp ltInt b j d = d := by
 unfold shiftUp
 split
 ·rw [if_pos (by unfold ltInt; rw [decide_eq_false hl]; simp)]
 rfl
theorem up_end {d : Array Int} {b j : Nat} (h : ¬ j < b) : shiftUp ltInt b j d = d := by
 unfold shiftUp; rw [if_neg h]
def RetWB (b : Nat) (t : Bool) (d : Array Int) (w : World) (e : Ending) (w' : World) : Prop := e = .returned (.bool t) ∧ Wr b w w' ∧ RowB w' b d
theorem pins_any (b cap n a0 b0 : Nat) (d : Array Int) (w : World) (hd : d.size = n) (hn : n ≤ 1000000) (hab : a0 + 1 < b0) (hb : b0 ≤ n) (hw : RowB w b d) :
  Calls Tryz.prog 210 #[.slice (some ⟨b, 0, none⟩) n cap, .int .i64 a0, .int .i64 b0] w (RetWB b (partialInsertionSort ltInt d a0 b0).2 (partialInsertionSort ltInt d a0 b0).1 w) := by
 have HF := Lh (show b0 ≤ n ∧ n ≤ 1000000 ∧ a0 + 1 < b0 by omega)
 obtain ⟨i0, hi0⟩ : ∃ i0, a0 + 1 = i0 := ⟨_, rfl⟩
 obtain ⟨L, hL⟩ : ∃ L, L + a0 = b0 := ⟨b0 - a0, by omega⟩
 have HL := Lh (show b0 - a0 = L by omega)
 have HE0 := Lh (show a0 + 1 ≤ i0 ∧ i0 ≤ b0 by omega)
 have HE1 := Lh (show partialIns ltInt a0 b0 5 i0 d = partialInsertionSort ltInt d a0 b0 by unfold partialInsertionSort; rw [hi0])
 have HR1 := Lh hw
 have HD1 := Lh hd
 have s1 : IntKind.i64.wrap ((a0 : Int) + 1) = (i0 : Int) := wadd1 hi0 (by omega)
 have s2 : IntKind.i64.wrap ((b0 : Int) - (a0 : Int)) = (L : Int) := wsub hL (by clear s1; omega)
 clear hi0 hab hb hw hd hL
 go_enter Tryz.func210, Tryz.ntmps210
 go_wp2_with fail
 clear s1
 go_loopw [8, 7] (fun v u wr => ∃ (s t K : Nat) (d1 : Array Int), u = .int .i64 K ∧ v = .int .i64 t ∧ Hid (s + t = 5) ∧ Hid (a0 + 1 ≤ K ∧ K ≤ b0) ∧ Hid (Wr b w wr) ∧ Hid (RowB wr b d1) ∧ Hid (d1.size = n) ∧ Hid (partialIns ltInt a0 b0 s K d1 = partialInsertionSort ltInt d a0 b0)) (fun v _ _ => 5 - (intOf v).toNat)
 case atStart => exact ⟨5, 0, i0, d, rfl, rfl, Lh rfl, HE0, Lh (Wr.refl _ _), HR1, HD1, HE1⟩
 case round =>
  clear HE0 HR1 HD1 HE1
  obtain ⟨s, t, K, d1, rfl, rfl, hst, HE0, HW1, HR1, HD1, HE1⟩ := hrel
  cases s with
  | zero =>
   obtain rfl : t = 5 := by have := hst.out; omega
   have HP := Lh (show partialInsertionSort ltInt d a0 b0 = (d1, false) from HE1.out.symm)
   clear HE1
   go_wp2_with fail
   go_ret
   rw [HP.out]
   exact ⟨rfl, HW1.out, HR1.out⟩
  | succ s =>
   have t5 : (t : Int) < 5 := by have := hst.out; omega
   have t5n : t < 5 := by have := hst.out; omega
   have e0 : IntKind.i64.wrap ((t : Int) + 1) = ((t + 1 : Nat) : Int) := wadd1 rfl (by clear s2; omega)
   have E0 := Lh e0
   clear e0
   replace hst := Lh (show s + (t + 1) = 5 by have := hst.out; omega)
   go_wp2_with fail
   go_loopw [7] (fun u wr' => ∃ k : Nat, u = .int .i64 k ∧ Hid (K ≤ k ∧ k ≤ b0) ∧ Hid (Wr b w wr') ∧ Hid (RowB wr' b d1) ∧ Hid (scanSorted ltInt d1 b0 k = scanSorted ltInt d1 b0 K)) (fun u _ => b0 - (intOf u).toNat)
   case atStart => exact ⟨K, rfl, Lh ⟨Nat.le_refl _, HE0.out.2⟩, HW1, HR1, Lh rfl⟩
   case round =>
    clear HW1 HR1
    obtain ⟨k, rfl, hk, HW1, HR1, HKK⟩ := hrel
    by_cases hkb : k < b0
    ·have f1 : (k : Int) < (b0 : Int) := by clear s2; omega
     obtain ⟨kp, hkp⟩ : ∃ kp, kp + 1 = k := ⟨k - 1, by clear s2; have := hk.out; have := HE0.out; omega⟩
     have HZ := Lh (show k < n ∧ kp < n ∧ kp + 1 = k by clear s2; have := HF.out; omega)
     have f2 : (k : Int) < (n : Int) := by clear s2; have := HZ.out; omega
     have f3 : (kp : Int) < (n : Int) := by clear s2; have := HZ.out; omega
     obtain ⟨cj, -⟩ := HR1.out k (by rw [HD1.out]; exact HZ.out.1)
     obtain ⟨cp, -⟩ := HR1.out kp (by rw [HD1.out]; exact HZ.out.2.1)
     have e1 : IntKind.i64.wrap ((k : Int) - 1) = (kp : Int) := wsub1 hkp (by clear s2; have := HF.out; omega)
     have e2 : IntKind.i64.wrap ((k : Int) + 1) = ((k + 1 : Nat) : Int) := wadd1 rfl (by clear s2 e1; have := HF.out; omega)
     by_cases hl : d1[k]! < d1[kp]!
     ·have C := Lh (fun w1 => show Calls Tryz.prog 167 #[.int .u8 d1[k]!, .int .u8 d1[kp]!] w1 fun e w' => e = .returned (.bool true) ∧ w' = w1 by have := Less8_any d1[k]! d1[kp]! w1; rwa [decide_eq_true hl] at this)
      have HX := Lh (show scanSorted ltInt d1 b0 K = k by rw [← HKK.out]; exact sorted_stop (by rw [show k - 1 = kp by clear s2 e1 e2; omega]; exact hl))
      have HK := Lh (show a0 + 1 ≤ k ∧ k < b0 by clear s2 e1 e2; have := hk.out; have := HE0.out; omega)
      have kb : ((k : Int) == (b0 : Int)) = false := by simp; clear s2 e1 e2; omega
      have hKb : ¬ k = b0 := by clear s2 e1 e2; omega
      generalize d1[k]! = x at C cj cp
      generalize d1[kp]! = y at C cj cp
      clear hl hkp HKK
      go_wp2_with fail
      go_quiet ((go_at_call 167; with_reducible exact Calls.quiet_of_same (C.out _)))
      clear e1 e2 cj cp C f2 f3
      replace HW1 := Lh (HW1.out.drewN nq)
      replace HR1 := Lh (show RowB (wr.drewN nq) b d1 from HR1.out)
      generalize wr.drewN nq = wr at *
      clear hk HE0 HZ
      have t5' := t5
      clear t5 t5n
      generalize hK9 : k = K at *
      clear hK9 hkb
      by_cases h50 : L < 50
      ·have g50 : (L : Int) < 50 := by clear s2; omega
       have HP := Lh (show partialInsertionSort ltInt d a0 b0 = (d1, false) by
        have := HE1.out
        rw [partialIns_succ] at this
        simp only [HX.out] at this
        rw [if_neg hKb, if_pos (show b0 - a0 < 50 by rw [HL.out]; exact h50)] at this
        exact this.symm)
       clear HE1 HX
       go_wp2_with fail
       go_ret
       rw [HP.out]
       exact ⟨rfl, HW1.out, HR1.out⟩
      have g50 : ¬ (L : Int) < 50 := by clear s2; omega
      replace h50 : ¬ b0 - a0 < 50 := by rw [HL.out]; exact h50
      go_wp2_with fail
      clear s2 g50
      obtain ⟨K0, hK0⟩ : ∃ K0, K0 + 1 = K := ⟨K - 1, by have := HK.out; omega⟩
      have HZ := Lh (show K < n ∧ K0 < n ∧ K0 + 1 = K by have := HK.out; have := HF.out; omega)
      obtain ⟨cj, fj⟩ := HR1.out K (by rw [HD1.out]; have := HZ.out; omega)
      obtain ⟨cp, fp⟩ := HR1.out K0 (by rw [HD1.out]; have := HZ.out; omega)
      have f2 : (K : Int) < (n : Int) := by have := HZ.out; omega
      have f3 : (K0 : Int) < (n : Int) := by have := HZ.out; omega
      have HS := Lh (HR1.out.swap (i := K) (j := K0) (by rw [HD1.out]; have := HZ.out; omega) (by rw [HD1.out]; have := HZ.out; omega))
      have HD3 := Lh (show (swp d1 K K0).size = n by rw [size_swp]; exact HD1.out)
      obtain ⟨ka, hka⟩ : ∃ ka, ka + a0 = K := ⟨K - a0, by have := HK.out; omega⟩
      obtain ⟨bk, hbk⟩ : ∃ bk, bk + K = b0 := ⟨b0 - K, by have := HK.out; omega⟩
      obtain ⟨K1, hK1⟩ : ∃ K1, K + 1 = K1 := ⟨_, rfl⟩
      have HKK1 := Lh hK1
      have HA := Lh (show partialIns ltInt a0 b0 s K (if bk ≥ 2 then shiftUp ltInt b0 K1 (if ka ≥ 2 then shiftDown ltInt K0 (swp d1 K K0) else swp d1 K K0) else (if ka ≥ 2 then shiftDown ltInt K0 (swp d1 K K0) else swp d1 K K0)) = partialInsertionSort ltInt d a0 b0 by
       have := HE1.out
       rw [partialIns_succ] at this
       simp only [HX.out, fixUp, fixDown] at this
       rw [if_neg hKb, if_neg h50, show K - 1 = K0 by omega, show K - a0 = ka by omega, show b0 - K = bk by omega, hK1] at this
       exact this)
      have hkn := HZ.out
      have hfn := HF.out
      have e1 : IntKind.i64.wrap ((K : Int) - 1) = (K0 : Int) := wsub1 hK0 (by omega)
      have e2 : IntKind.i64.wrap ((K : Int) - (a0 : Int)) = (ka : Int) := wsub hka (by clear e1; omega)
      have E1 : IntKind.i64.wrap ((b0 : Int) - (K : Int)) = (bk : Int) := wsub hbk (by clear e1 e2; omega)
      have E2 : IntKind.i64.wrap ((K : Int) + 1) = (K1 : Int) := wadd1 hK1 (by clear e1 e2 E1; omega)
      clear HX HE1 hK0 hka hKb h50 hbk hK1 hkn hfn
      generalize swp d1 K K0 = d3 at *
      generalize d1[K]! = x at *
      generalize d1[K0]! = y at *
      have cp2 := cell_same cp K
      have cj2 := cell_same cj K0
      go_wp2_with fail
      go_region
      replace HW1 := Lh (show Wr b w ((wr.setCell ⟨b, K, none⟩ (.int .u8 y)).setCell ⟨b, K0, none⟩ (.int .u8 x)).drew from ((HW1.out.set K _).set K0 _).drew)
      clear HR1 HD1
      have HR1 := Lh (show RowB ((wr.setCell ⟨b, K, none⟩ (.int .u8 y)).setCell ⟨b, K0, none⟩ (.int .u8 x)).drew b d3 from HS.out)
      have HD1 := HD3
      clear HS HD3 cj fj cp fp cp2 cj2 f2 f3
      generalize ((wr.setCell ⟨b, K, none⟩ (.int .u8 y)).setCell ⟨b, K0, none⟩ (.int .u8 x)).drew = wr at *
      generalize hd1 : d3 = d1 at *
      clear hd1
      by_cases hB : bk ≥ 2
      ·have g2 : (2 : Int) ≤ (bk : Int) := by clear e1 e2 E1 E2; omega
       have g2n : 2 ≤ bk := hB
       by_cases hA : ka ≥ 2
       ·have g1 : (2 : Int) ≤ (ka : Int) := by clear e1 e2 E1 E2; omega
        have g1n : 2 ≤ ka := hA
        obtain ⟨dX, hdX⟩ : ∃ dX, shiftDown ltInt K0 d1 = dX := ⟨_, rfl⟩
        have HV := Lh hdX
        have HP0 := Lh (show partialIns ltInt a0 b0 s K (shiftUp ltInt b0 K1 dX) = partialInsertionSort ltInt d a0 b0 by have := HA.out; rwa [if_pos hB, if_pos hA, hdX] at this)
        clear hdX hA HA hB
        go_wp2_with fail
        clear e1 e2 g1 g1n
        have HK1 := HK
        replace HK := Lh (show (1 ≤ K ∧ a0 + 1 ≤ K ∧ K < b0) ∧ K0 < n by clear E1 E2; have := HK1.out; have := HZ.out; omega)
        go_loopw [9] (fun v wr' => ∃ (J : Nat) (d2 : Array Int), v = .int .i64 J ∧ Hid (J < n) ∧ Hid (Wr b w wr') ∧ Hid (RowB wr' b d2) ∧ Hid (d2.size = n) ∧ Hid (shiftDown ltInt J d2 = dX)) (fun v _ => (intOf v).toNat)
        case atStart => exact ⟨K0, d1, rfl, Lh (by have := HK.out; have := HF.out; omega), HW1, HR1, HD1, HV⟩
        case round =>
         clear HW1 HR1 HD1 HV
         obtain ⟨J, d1, rfl, hJ, HW1, HR1, HD1, HV⟩ := hrel
         have hJ' := hJ.out
         have hf := HF.out
         have hk := HK.out
         by_cases hJ0 : 1 ≤ J
         focus
          have f1 : (1 : Int) ≤ (J : Int) := by omega
          have f1n : 1 ≤ J := hJ0
          have f0n : 0 < J := by omega
          obtain ⟨jp, hjp⟩ : ∃ jp, jp + 1 = J := ⟨J - 1, by omega⟩
          have f2 : (J : Int) < (n : Int) := by omega
          have f3 : (jp : Int) < (n : Int) := by omega
          have HZ := Lh (show J < n ∧ jp < n ∧ jp + 1 = J by omega)
          obtain ⟨cj, fj⟩ := HR1.out J (by rw [HD1.out]; omega)
          obtain ⟨cp, fp⟩ := HR1.out jp (by rw [HD1.out]; omega)
          have e1 : IntKind.i64.wrap ((J : Int) - 1) = (jp : Int) := wsub1 hjp (by omega)
          by_cases hl : d1[J]! < d1[jp]!
          ·have C := Lh (fun w1 => show Calls Tryz.prog 167 #[.int .u8 d1[J]!, .int .u8 d1[jp]!] w1 fun e w' => e = .returned (.bool true) ∧ w' = w1 by have := Less8_any d1[J]! d1[jp]! w1; rwa [decide_eq_true hl] at this)
           have HV2 := Lh (show shiftDown ltInt jp (swp d1 J jp) = dX by rw [← HV.out, ← hjp, down_go (by rw [hjp]; exact hl)])
           have HS := Lh (HR1.out.swap (i := J) (j := jp) (by rw [HD1.out]; have := HZ.out; omega) (by rw [HD1.out]; have := HZ.out; omega))
           have HD3 := Lh (show (swp d1 J jp).size = n by rw [size_swp]; exact HD1.out)
           generalize swp d1 J jp = d3 at *
           generalize d1[J]! = x at *
           generalize d1[jp]! = y at *
           clear hl hjp hJ' hf hk HV HR1 HD1 hJ0
           go_wp2_with fail
           go_quiet ((go_at_call 167; with_reducible exact Calls.quiet_of_same (C.out _)))
           go_wp2_with fail
           replace HS := Lh (show RowB (((wr.drewN nq).setCell ⟨b, J, none⟩ (.int .u8 y)).setCell ⟨b, jp, none⟩ (.int .u8 x)) b d3 from HS.out)
           replace HW1 := Lh (HW1.out.drewN nq)
           replace cj : (wr.drewN nq).cell? ⟨b, J, none⟩ = some (.int .u8 x) := cj
           replace cp : (wr.drewN nq).cell? ⟨b, jp, none⟩ = some (.int .u8 y) := cp
           replace fj : (wr.drewN nq).frozen? ⟨b, J, none⟩ = false := fj
           replace fp : (wr.drewN nq).frozen? ⟨b, jp, none⟩ = false := fp
           generalize wr.drewN nq = wq at *
           have cp2 := cell_same cp J
           have cj2 := cell_same cj jp
           go_region
           all_goals go_wp2
           go_roundw
           case rel => exact ⟨jp, d3, rfl, Lh (by clear e1; have := HZ.out; have := hJ.out; omega), Lh ((HW1.out.set J _).set jp _).drew, HS, HD3, HV2⟩
           case measure => clear e1; have := HZ.out; have := hJ.out; simp [intOf]; omega
          have C := Lh (fun w1 => show Calls Tryz.prog 167 #[.int .u8 d1[J]!, .int .u8 d1[jp]!] w1 fun e w' => e = .returned (.bool false) ∧ w' = w1 by have := Less8_any d1[J]! d1[jp]! w1; rwa [decide_eq_false hl] at this)
          have HV2 := Lh (show d1 = dX by rw [← HV.out, ← hjp, down_stop (by rw [hjp]; exact hl)])
          generalize d1[J]! = x at C cj cp
          generalize d1[jp]! = y at C cj cp
          clear hl hjp hJ' hf hk HV hJ0
          go_wp2_with fail
          go_quiet ((go_at_call 167; with_reducible exact Calls.quiet_of_same (C.out _)))
          go_wp2_with fail
          replace HW1 := Lh (HW1.out.drewN nq)
          replace HR1 := Lh (show RowB (wr.drewN nq) b d1 from HR1.out)
          clear cj cp fj fp C e1 f1 f2 f3 f1n f0n HZ
          generalize wr.drewN nq = wr at *
         rotate_left
         focus
          have f1 : ¬ (1 : Int) ≤ (J : Int) := by omega
          have f1n : ¬ 1 ≤ J := hJ0
          have HV2 := Lh (show d1 = dX by rw [← HV.out, show J = 0 by omega]; rfl)
          obtain rfl : J = 0 := by omega
          clear hJ' hf hk HV hJ0
          go_wp2_with fail
         all_goals
          replace HK := HK1
          clear g2 g2n
          obtain ⟨dY, hdY⟩ : ∃ dY, shiftUp ltInt b0 K1 d1 = dY := ⟨_, rfl⟩
          have HP := Lh (show partialIns ltInt a0 b0 s K dY = partialInsertionSort ltInt d a0 b0 by rw [← hdY]; first | exact HP0.out | (rw [HV2.out]; exact HP0.out))
          have HV := Lh hdY
          clear HP0 HV2 hdY
          replace HK := Lh (show 1 ≤ K1 ∧ K1 ≤ b0 ∧ a0 + 1 ≤ K ∧ K < b0 by clear E1 E2; have := HK.out; have := HKK1.out; omega)
          go_loopw [10] (fun v wr' => ∃ (J : Nat) (d2 : Array Int), v = .int .i64 J ∧ Hid (J ≤ b0 ∧ 1 ≤ J) ∧ Hid (Wr b w wr') ∧ Hid (RowB wr' b d2) ∧ Hid (d2.size = n) ∧ Hid (shiftUp ltInt b0 J d2 = dY)) (fun v _ => b0 - (intOf v).toNat)
          case atStart => exact ⟨K1, d1, rfl, Lh (by have := HK.out; have := HF.out; omega), HW1, HR1, HD1, HV⟩
          case round =>
           clear HW1 HR1 HD1 HV
           obtain ⟨J, d1, rfl, hJ, HW1, HR1, HD1, HV⟩ := hrel
           have hJ' := hJ.out
           have hf := HF.out
           have hk := HK.out
           by_cases hJ0 : J < b0
           focus
            have f1 : (J : Int) < (b0 : Int) := by omega
            have f1n : J < b0 := hJ0
            have f0n : 0 < J := by omega
            obtain ⟨jp, hjp⟩ : ∃ jp, jp + 1 = J := ⟨J - 1, by omega⟩
            have f2 : (J : Int) < (n : Int) := by omega
            have f3 : (jp : Int) < (n : Int) := by omega
            have HZ := Lh (show J < n ∧ jp < n ∧ jp + 1 = J by omega)
            obtain ⟨cj, fj⟩ := HR1.out J (by rw [HD1.out]; omega)
            obtain ⟨cp, fp⟩ := HR1.out jp (by rw [HD1.out]; omega)
            have e1 : IntKind.i64.wrap ((J : Int) - 1) = (jp : Int) := wsub1 hjp (by omega)
            by_cases hl : d1[J]! < d1[jp]!
            ·have C := Lh (fun w1 => show Calls Tryz.prog 167 #[.int .u8 d1[J]!, .int .u8 d1[jp]!] w1 fun e w' => e = .returned (.bool true) ∧ w' = w1 by have := Less8_any d1[J]! d1[jp]! w1; rwa [decide_eq_true hl] at this)
             have HV2 := Lh (show shiftUp ltInt b0 (J + 1) (swp d1 J jp) = dY by rw [← HV.out, up_go hJ0 (by rw [show J - 1 = jp by omega]; exact hl), show J - 1 = jp by omega])
             have e2 : IntKind.i64.wrap ((J : Int) + 1) = ((J + 1 : Nat) : Int) := wadd1 rfl (by clear e1; omega)
             have HS := Lh (HR1.out.swap (i := J) (j := jp) (by rw [HD1.out]; have := HZ.out; omega) (by rw [HD1.out]; have := HZ.out; omega))
             have HD3 := Lh (show (swp d1 J jp).size = n by rw [size_swp]; exact HD1.out)
             generalize swp d1 J jp = d3 at *
             generalize d1[J]! = x at *
             generalize d1[jp]! = y at *
             clear hl hjp hJ' hf hk HV HR1 HD1 hJ0
             go_wp2_with fail
             go_quiet ((go_at_call 167; with_reducible exact Calls.quiet_of_same (C.out _)))
             go_wp2_with fail
             replace HS := Lh (show RowB (((wr.drewN nq).setCell ⟨b, J, none⟩ (.int .u8 y)).setCell ⟨b, jp, none⟩ (.int .u8 x)) b d3 from HS.out)
             replace HW1 := Lh (HW1.out.drewN nq)
             replace cj : (wr.drewN nq).cell? ⟨b, J, none⟩ = some (.int .u8 x) := cj
             replace cp : (wr.drewN nq).cell? ⟨b, jp, none⟩ = some (.int .u8 y) := cp
             replace fj : (wr.drewN nq).frozen? ⟨b, J, none⟩ = false := fj
             replace fp : (wr.drewN nq).frozen? ⟨b, jp, none⟩ = false := fp
             generalize wr.drewN nq = wq at *
             have cp2 := cell_same cp J
             have cj2 := cell_same cj jp
             go_region
             all_goals go_wp2
             go_roundw
             case rel => exact ⟨J + 1, d3, by go_num, Lh (by clear e1 e2; have := HZ.out; have := hJ.out; omega), Lh ((HW1.out.set J _).set jp _).drew, HS, HD3, HV2⟩
             case measure => clear e1 e2; have := HZ.out; have := hJ.out; simp [intOf]; omega
            have C := Lh (fun w1 => show Calls Tryz.prog 167 #[.int .u8 d1[J]!, .int .u8 d1[jp]!] w1 fun e w' => e = .returned (.bool false) ∧ w' = w1 by have := Less8_any d1[J]! d1[jp]! w1; rwa [decide_eq_false hl] at this)
            have HV2 := Lh (show d1 = dY by rw [← HV.out, up_stop (by rw [show J - 1 = jp by omega]; exact hl)])
            generalize d1[J]! = x at C cj cp
            generalize d1[jp]! = y at C cj cp
            clear hl hjp hJ' hf hk HV hJ0
            go_wp2_with fail
            go_quiet ((go_at_call 167; with_reducible exact Calls.quiet_of_same (C.out _)))
            go_wp2_with fail
            replace HW1 := Lh (HW1.out.drewN nq)
            replace HR1 := Lh (show RowB (wr.drewN nq) b d1 from HR1.out)
            clear cj cp fj fp C e1 f1 f2 f3 f1n f0n HZ
            generalize wr.drewN nq = wr at *
           rotate_left
           focus
            have f1 : ¬ (J : Int) < (b0 : Int) := by omega
            have f1n : ¬ J < b0 := hJ0
            have HV2 := Lh (show d1 = dY by rw [← HV.out, up_end hJ0])
            clear hJ' hf hk HV hJ0
            go_wp2_with fail
           all_goals
            have HP2 := Lh (show partialIns ltInt a0 b0 s K d1 = partialInsertionSort ltInt d a0 b0 by first | exact HP.out | (rw [HV2.out]; exact HP.out))
            clear HP HV2
            go_roundw
            case rel => exact ⟨s, t + 1, K, d1, rfl, by go_num, Lh (by clear E1 E2; have := hst.out; omega), Lh (by clear E1 E2; have := HK.out; have := HF.out; omega), HW1, HR1, HD1, HP2⟩
            case measure => clear E1 E2; have := hst.out; simp [intOf]; omega
       have g1 : ¬ (2 : Int) ≤ (ka : Int) := by clear e1 e2 E1 E2; omega
       have g1n : ¬ 2 ≤ ka := hA
       have HP0 := Lh (show partialIns ltInt a0 b0 s K (shiftUp ltInt b0 K1 d1) = partialInsertionSort ltInt d a0 b0 by have := HA.out; rwa [if_pos hB, if_neg hA] at this)
       have HV2 := Lh (show d1 = d1 from rfl)
       clear hA HA hB
       go_wp2_with fail
       clear e1 e2 g1 g1n g2 g2n
       obtain ⟨dY, hdY⟩ : ∃ dY, shiftUp ltInt b0 K1 d1 = dY := ⟨_, rfl⟩
       have HP := Lh (show partialIns ltInt a0 b0 s K dY = partialInsertionSort ltInt d a0 b0 by rw [← hdY]; first | exact HP0.out | (rw [HV2.out]; exact HP0.out))
       have HV := Lh hdY
       clear HP0 HV2 hdY
       replace HK := Lh (show 1 ≤ K1 ∧ K1 ≤ b0 ∧ a0 + 1 ≤ K ∧ K < b0 by clear E1 E2; have := HK.out; have := HKK1.out; omega)
       go_loopw [10] (fun v wr' => ∃ (J : Nat) (d2 : Array Int), v = .int .i64 J ∧ Hid (J ≤ b0 ∧ 1 ≤ J) ∧ Hid (Wr b w wr') ∧ Hid (RowB wr' b d2) ∧ Hid (d2.size = n) ∧ Hid (shiftUp ltInt b0 J d2 = dY)) (fun v _ => b0 - (intOf v).toNat)
       case atStart => exact ⟨K1, d1, rfl, Lh (by have := HK.out; have := HF.out; omega), HW1, HR1, HD1, HV⟩
       case round =>
        clear HW1 HR1 HD1 HV
        obtain ⟨J, d1, rfl, hJ, HW1, HR1, HD1, HV⟩ := hrel
        have hJ' := hJ.out
        have hf := HF.out
        have hk := HK.out
        by_cases hJ0 : J < b0
        focus
         have f1 : (J : Int) < (b0 : Int) := by omega
         have f1n : J < b0 := hJ0
         have f0n : 0 < J := by omega
         obtain ⟨jp, hjp⟩ : ∃ jp, jp + 1 = J := ⟨J - 1, by omega⟩
         have f2 : (J : Int) < (n : Int) := by omega
         have f3 : (jp : Int) < (n : Int) := by omega
         have HZ := Lh (show J < n ∧ jp < n ∧ jp + 1 = J by omega)
         obtain ⟨cj, fj⟩ := HR1.out J (by rw [HD1.out]; omega)
         obtain ⟨cp, fp⟩ := HR1.out jp (by rw [HD1.out]; omega)
         have e1 : IntKind.i64.wrap ((J : Int) - 1) = (jp : Int) := wsub1 hjp (by omega)
         by_cases hl : d1[J]! < d1[jp]!
         ·have C := Lh (fun w1 => show Calls Tryz.prog 167 #[.int .u8 d1[J]!, .int .u8 d1[jp]!] w1 fun e w' => e = .returned (.bool true) ∧ w' = w1 by have := Less8_any d1[J]! d1[jp]! w1; rwa [decide_eq_true hl] at this)
          have HV2 := Lh (show shiftUp ltInt b0 (J + 1) (swp d1 J jp) = dY by rw [← HV.out, up_go hJ0 (by rw [show J - 1 = jp by omega]; exact hl), show J - 1 = jp by omega])
          have e2 : IntKind.i64.wrap ((J : Int) + 1) = ((J + 1 : Nat) : Int) := wadd1 rfl (by clear e1; omega)
          have HS := Lh (HR1.out.swap (i := J) (j := jp) (by rw [HD1.out]; have := HZ.out; omega) (by rw [HD1.out]; have := HZ.out; omega))
          have HD3 := Lh (show (swp d1 J jp).size = n by rw [size_swp]; exact HD1.out)
          generalize swp d1 J jp = d3 at *
          generalize d1[J]! = x at *
          generalize d1[jp]! = y at *
          clear hl hjp hJ' hf hk HV HR1 HD1 hJ0
          go_wp2_with fail
          go_quiet ((go_at_call 167; with_reducible exact Calls.quiet_of_same (C.out _)))
          go_wp2_with fail
          replace HS := Lh (show RowB (((wr.drewN nq).setCell ⟨b, J, none⟩ (.int .u8 y)).setCell ⟨b, jp, none⟩ (.int .u8 x)) b d3 from HS.out)
          replace HW1 := Lh (HW1.out.drewN nq)
          replace cj : (wr.drewN nq).cell? ⟨b, J, none⟩ = some (.int .u8 x) := cj
          replace cp : (wr.drewN nq).cell? ⟨b, jp, none⟩ = some (.int .u8 y) := cp
          replace fj : (wr.drewN nq).frozen? ⟨b, J, none⟩ = false := fj
          replace fp : (wr.drewN nq).frozen? ⟨b, jp, none⟩ = false := fp
          generalize wr.drewN nq = wq at *
          have cp2 := cell_same cp J
          have cj2 := cell_same cj jp
          go_region
          all_goals go_wp2
          go_roundw
          case rel => exact ⟨J + 1, d3, by go_num, Lh (by clear e1 e2; have := HZ.out; have := hJ.out; omega), Lh ((HW1.out.set J _).set jp _).drew, HS, HD3, HV2⟩
          case measure => clear e1 e2; have := HZ.out; have := hJ.out; simp [intOf]; omega
         have C := Lh (fun w1 => show Calls Tryz.prog 167 #[.int .u8 d1[J]!, .int .u8 d1[jp]!] w1 fun e w' => e = .returned (.bool false) ∧ w' = w1 by have := Less8_any d1[J]! d1[jp]! w1; rwa [decide_eq_false hl] at this)
         have HV2 := Lh (show d1 = dY by rw [← HV.out, up_stop (by rw [show J - 1 = jp by omega]; exact hl)])
         generalize d1[J]! = x at C cj cp
         generalize d1[jp]! = y at C cj cp
         clear hl hjp hJ' hf hk HV hJ0
         go_wp2_with fail
         go_quiet ((go_at_call 167; with_reducible exact Calls.quiet_of_same (C.out _)))
         go_wp2_with fail
         replace HW1 := Lh (HW1.out.drewN nq)
         replace HR1 := Lh (show RowB (wr.drewN nq) b d1 from HR1.out)
         clear cj cp fj fp C e1 f1 f2 f3 f1n f0n HZ
         generalize wr.drewN nq = wr at *
        rotate_left
        focus
         have f1 : ¬ (J : Int) < (b0 : Int) := by omega
         have f1n : ¬ J < b0 := hJ0
         have HV2 := Lh (show d1 = dY by rw [← HV.out, up_end hJ0])
         clear hJ' hf hk HV hJ0
         go_wp2_with fail
        all_goals
         have HP2 := Lh (show partialIns ltInt a0 b0 s K d1 = partialInsertionSort ltInt d a0 b0 by first | exact HP.out | (rw [HV2.out]; exact HP.out))
         clear HP HV2
         go_roundw
         case rel => exact ⟨s, t + 1, K, d1, rfl, by go_num, Lh (by clear E1 E2; have := hst.out; omega), Lh (by clear E1 E2; have := HK.out; have := HF.out; omega), HW1, HR1, HD1, HP2⟩
         case measure => clear E1 E2; have := hst.out; simp [intOf]; omega
      have g2 : ¬ (2 : Int) ≤ (bk : Int) := by clear e1 e2 E1 E2; omega
      have g2n : ¬ 2 ≤ bk := hB
      by_cases hA : ka ≥ 2
      ·have g1 : (2 : Int) ≤ (ka : Int) := by clear e1 e2 E1 E2; omega
       have g1n : 2 ≤ ka := hA
       obtain ⟨dX, hdX⟩ : ∃ dX, shiftDown ltInt K0 d1 = dX := ⟨_, rfl⟩
       have HV := Lh hdX
       have HP0 := Lh (show partialIns ltInt a0 b0 s K (dX) = partialInsertionSort ltInt d a0 b0 by have := HA.out; rwa [if_neg hB, if_pos hA, hdX] at this)
       clear hdX hA HA hB
       go_wp2_with fail
       clear e1 e2 g1 g1n
       have HK1 := HK
       replace HK := Lh (show (1 ≤ K ∧ a0 + 1 ≤ K ∧ K < b0) ∧ K0 < n by clear E1 E2; have := HK1.out; have := HZ.out; omega)
       go_loopw [9] (fun v wr' => ∃ (J : Nat) (d2 : Array Int), v = .int .i64 J ∧ Hid (J < n) ∧ Hid (Wr b w wr') ∧ Hid (RowB wr' b d2) ∧ Hid (d2.size = n) ∧ Hid (shiftDown ltInt J d2 = dX)) (fun v _ => (intOf v).toNat)
       case atStart => exact ⟨K0, d1, rfl, Lh (by have := HK.out; have := HF.out; omega), HW1, HR1, HD1, HV⟩
       case round =>
        clear HW1 HR1 HD1 HV
        obtain ⟨J, d1, rfl, hJ, HW1, HR1, HD1, HV⟩ := hrel
        have hJ' := hJ.out
        have hf := HF.out
        have hk := HK.out
        by_cases hJ0 : 1 ≤ J
        focus
         have f1 : (1 : Int) ≤ (J : Int) := by omega
         have f1n : 1 ≤ J := hJ0
         have f0n : 0 < J := by omega
         obtain ⟨jp, hjp⟩ : ∃ jp, jp + 1 = J := ⟨J - 1, by omega⟩
         have f2 : (J : Int) < (n : Int) := by omega
         have f3 : (jp : Int) < (n : Int) := by omega
         have HZ := Lh (show J < n ∧ jp < n ∧ jp + 1 = J by omega)
         obtain ⟨cj, fj⟩ := HR1.out J (by rw [HD1.out]; omega)
         obtain ⟨cp, fp⟩ := HR1.out jp (by rw [HD1.out]; omega)
         have e1 : IntKind.i64.wrap ((J : Int) - 1) = (jp : Int) := wsub1 hjp (by omega)
         by_cases hl : d1[J]! < d1[jp]!
         ·have C := Lh (fun w1 => show Calls Tryz.prog 167 #[.int .u8 d1[J]!, .int .u8 d1[jp]!] w1 fun e w' => e = .returned (.bool true) ∧ w' = w1 by have := Less8_any d1[J]! d1[jp]! w1; rwa [decide_eq_true hl] at this)
          have HV2 := Lh (show shiftDown ltInt jp (swp d1 J jp) = dX by rw [← HV.out, ← hjp, down_go (by rw [hjp]; exact hl)])
          have HS := Lh (HR1.out.swap (i := J) (j := jp) (by rw [HD1.out]; have := HZ.out; omega) (by rw [HD1.out]; have := HZ.out; omega))
          have HD3 := Lh (show (swp d1 J jp).size = n by rw [size_swp]; exact HD1.out)
          generalize swp d1 J jp = d3 at *
          generalize d1[J]! = x at *
          generalize d1[jp]! = y at *
          clear hl hjp hJ' hf hk HV HR1 HD1 hJ0
          go_wp2_with fail
          go_quiet ((go_at_call 167; with_reducible exact Calls.quiet_of_same (C.out _)))
          go_wp2_with fail
          replace HS := Lh (show RowB (((wr.drewN nq).setCell ⟨b, J, none⟩ (.int .u8 y)).setCell ⟨b, jp, none⟩ (.int .u8 x)) b d3 from HS.out)
          replace HW1 := Lh (HW1.out.drewN nq)
          replace cj : (wr.drewN nq).cell? ⟨b, J, none⟩ = some (.int .u8 x) := cj
          replace cp : (wr.drewN nq).cell? ⟨b, jp, none⟩ = some (.int .u8 y) := cp
          replace fj : (wr.drewN nq).frozen? ⟨b, J, none⟩ = false := fj
          replace fp : (wr.drewN nq).frozen? ⟨b, jp, none⟩ = false := fp
          generalize wr.drewN nq = wq at *
          have cp2 := cell_same cp J
          have cj2 := cell_same cj jp
          go_region
          all_goals go_wp2
          go_roundw
          case rel => exact ⟨jp, d3, rfl, Lh (by clear e1; have := HZ.out; have := hJ.out; omega), Lh ((HW1.out.set J _).set jp _).drew, HS, HD3, HV2⟩
          case measure => clear e1; have := HZ.out; have := hJ.out; simp [intOf]; omega
         have C := Lh (fun w1 => show Calls Tryz.prog 167 #[.int .u8 d1[J]!, .int .u8 d1[jp]!] w1 fun e w' => e = .returned (.bool false) ∧ w' = w1 by have := Less8_any d1[J]! d1[jp]! w1; rwa [decide_eq_false hl] at this)
         have HV2 := Lh (show d1 = dX by rw [← HV.out, ← hjp, down_stop (by rw [hjp]; exact hl)])
         generalize d1[J]! = x at C cj cp
         generalize d1[jp]! = y at C cj cp
         clear hl hjp hJ' hf hk HV hJ0
         go_wp2_with fail
         go_quiet ((go_at_call 167; with_reducible exact Calls.quiet_of_same (C.out _)))
         go_wp2_with fail
         replace HW1 := Lh (HW1.out.drewN nq)
         replace HR1 := Lh (show RowB (wr.drewN nq) b d1 from HR1.out)
         clear cj cp fj fp C e1 f1 f2 f3 f1n f0n HZ
         generalize wr.drewN nq = wr at *
        rotate_left
        focus
         have f1 : ¬ (1 : Int) ≤ (J : Int) := by omega
         have f1n : ¬ 1 ≤ J := hJ0
         have HV2 := Lh (show d1 = dX by rw [← HV.out, show J = 0 by omega]; rfl)
         obtain rfl : J = 0 := by omega
         clear hJ' hf hk HV hJ0
         go_wp2_with fail
        all_goals
         replace HK := HK1
         clear g2 g2n
         have HP := Lh (show partialIns ltInt a0 b0 s K d1 = partialInsertionSort ltInt d a0 b0 by first | exact HP0.out | (rw [HV2.out]; exact HP0.out))
         replace HV2 := Lh (show d1 = d1 from rfl)
         clear HP0
         have HP2 := Lh (show partialIns ltInt a0 b0 s K d1 = partialInsertionSort ltInt d a0 b0 by first | exact HP.out | (rw [HV2.out]; exact HP.out))
         clear HP HV2
         go_roundw
         case rel => exact ⟨s, t + 1, K, d1, rfl, by go_num, Lh (by clear E1 E2; have := hst.out; omega), Lh (by clear E1 E2; have := HK.out; have := HF.out; omega), HW1, HR1, HD1, HP2⟩
         case measure => clear E1 E2; have := hst.out; simp [intOf]; omega
      have g1 : ¬ (2 : Int) ≤ (ka : Int) := by clear e1 e2 E1 E2; omega
      have g1n : ¬ 2 ≤ ka := hA
      have HP0 := Lh (show partialIns ltInt a0 b0 s K (d1) = partialInsertionSort ltInt d a0 b0 by have := HA.out; rwa [if_neg hB, if_neg hA] at this)
      have HV2 := Lh (show d1 = d1 from rfl)
      clear hA HA hB
      go_wp2_with fail
      clear e1 e2 g1 g1n g2 g2n
      have HP := Lh (show partialIns ltInt a0 b0 s K d1 = partialInsertionSort ltInt d a0 b0 by first | exact HP0.out | (rw [HV2.out]; exact HP0.out))
      replace HV2 := Lh (show d1 = d1 from rfl)
      clear HP0
      have HP2 := Lh (show partialIns ltInt a0 b0 s K d1 = partialInsertionSort ltInt d a0 b0 by first | exact HP.out | (rw [HV2.out]; exact HP.out))
      clear HP HV2
      go_roundw
      case rel => exact ⟨s, t + 1, K, d1, rfl, by go_num, Lh (by clear E1 E2; have := hst.out; omega), Lh (by clear E1 E2; have := HK.out; have := HF.out; omega), HW1, HR1, HD1, HP2⟩
      case measure => clear E1 E2; have := hst.out; simp [intOf]; omega
     have C := Lh (fun w1 => show Calls Tryz.prog 167 #[.int .u8 d1[k]!, .int .u8 d1[kp]!] w1 fun e w' => e = .returned (.bool false) ∧ w' = w1 by have := Less8_any d1[k]! d1[kp]! w1; rwa [decide_eq_false hl] at this)
     have HK2 := Lh (show scanSorted ltInt d1 b0 (k + 1) = scanSorted ltInt d1 b0 K by rw [← HKK.out]; exact (sorted_go hkb (by rw [show k - 1 = kp by clear s2 e1 e2; omega]; exact hl)).symm)
     have HM := Lh hkb
     generalize d1[k]! = x at C cj cp
     generalize d1[kp]! = y at C cj cp
     clear hl hkp HKK
     go_wp2_with fail
     go_quiet ((go_at_call 167; with_reducible exact Calls.quiet_of_same (C.out _)))
     go_wp2_with fail
     go_roundw
     case rel => exact ⟨k + 1, by go_num, Lh (by clear s2 e1 e2; have := hk.out; have := HM.out; omega), Lh (HW1.out.drewN _), HR1, HK2⟩
     case measure => clear s2 e1 e2; have := HM.out; simp [intOf]; omega
    obtain rfl : k = b0 := by clear s2; have := hk.out; omega
    have HX := Lh (show scanSorted ltInt d1 k K = k by rw [← HKK.out]; exact sorted_end hkb)
    have HP := Lh (show partialInsertionSort ltInt d a0 k = (d1, true) by
     have := HE1.out
     rw [partialIns_succ] at this
     simp only [HX.out, if_true] at this
     exact this.symm)
    have kb : ((k : Int) == (k : Int)) = true := by simp
    clear HE1 HX HKK
    go_wp2_with fail
    go_quiet (fail)
    replace HW1 := Lh (HW1.out.drewN nq)
    replace HR1 := Lh (show RowB (wr.drewN nq) b d1 from HR1.out)
    generalize wr.drewN nq = wr at *
    go_wp2_with fail
    go_ret
    rw [HP.out]
    exact ⟨rfl, HW1.out, HR1.out⟩
theorem _root_.Go.Firn.Wr.new {b r : Nat} {w w1 w2 : World} (h : Wr b w w1) (g : Wr r w1 w2) (hr : w.heap.size ≤ r) : Wr b w w2 :=
 ⟨g.os.trans h.os, g.tape.trans h.tape, g.output.trans h.output, Nat.le_trans h.size g.size, fun k hk hne => (g.block k (Nat.lt_of_lt_of_le hk h.size) (fun e => by cases e; omega)).trans (h.block k hk hne)⟩
theorem cell_far9 {w : World} {b r j : Nat} {u v : Value} (h : w.cell? ⟨r, 0, none⟩ = some v) (hne : b ≠ r) : (w.setCell ⟨b, j, none⟩ u).cell? ⟨r, 0, none⟩ = some v := by
 rw [World.cell?_setCell_other _ _ _ _ (fun e => hne (congrArg Addr.block e))]
 exact h
def brk (a L M i0 : Nat) (d : Array Int) : Nat → UInt64 × Array Int
 | 0 => (UInt64.ofNat L, d)
 | t + 1 => breakStep a L M (brk a L M i0 d t) (i0 + t)
theorem brk_is {a b L M i0 : Nat} {d : Array Int} (hL : b - a = L) (h8 : 8 ≤ L) (hM : 1 <<< bitsLen L = M) (hi : a + (L / 4) * 2 - 1 = i0) : breakPatterns d a b = (brk a L M i0 d 3).2 := by
 unfold breakPatterns
 simp only [hL]
 rw [if_pos (show L ≥ 8 from h8), hM, hi]
 rfl
theorem brk_step {a L M i0 t : Nat} {d d1 : Array Int} {r : UInt64} (h : brk a L M i0 d t = (r, d1)) {o X : Nat} (hX : xorNextN r.toNat = X) (ho : (if X &&& (M - 1) ≥ L then (X &&& (M - 1)) - L else X &&& (M - 1)) = o) :
  brk a L M i0 d (t + 1) = (xorNext r, swp d1 (i0 + t) (a + o)) := by
 show breakStep a L M (brk a L M i0 d t) (i0 + t) = _
 rw [h]
 unfold breakStep
 simp only [xorNext_toNat, hX, ho]
theorem brk_any (b cap n a0 b0 : Nat) (d : Array Int) (w : World) (hd : d.size = n) (hn : n ≤ 1000000) (hab : a0 + 12 < b0) (hb : b0 ≤ n) (hw : RowB w b d) (hbw : b < w.heap.size) :
  Calls Tryz.prog 207 #[.slice (some ⟨b, 0, none⟩) n cap, .int .i64 a0, .int .i64 b0] w (RetW b (breakPatterns d a0 b0) w) := by
 obtain ⟨L, hL⟩ : ∃ L, L + a0 = b0 := ⟨b0 - a0, by omega⟩
 obtain ⟨M, hM⟩ : ∃ M, 1 <<< bitsLen L = M := ⟨_, rfl⟩
 obtain ⟨q, hq⟩ : ∃ q, L / 4 = q := ⟨_, rfl⟩
 obtain ⟨i0, hi0⟩ : ∃ i0, a0 + q * 2 - 1 = i0 := ⟨_, rfl⟩
 have hM1 : 1 ≤ M := by rw [← hM, Nat.one_shiftLeft]; exact Nat.two_pow_pos _
 have hM2 : M ≤ 2 * L := by rw [← hM, Nat.one_shiftLeft]; exact two_pow_bitsLen_le (by omega)
 obtain ⟨M1, hM1'⟩ : ∃ M1, M1 + 1 = M := ⟨M - 1, by omega⟩
 have HB := Lh (brk_is (d := d) (a := a0) (b := b0) (L := L) (M := M) (i0 := i0) (by omega) (by omega) hM (by rw [hq]; exact hi0))
 have HN := Lh (fun w1 => show Calls Tryz.prog 239 #[.int .i64 (L : Int)] w1 fun e w' => e = .returned (.int .u64 (M : Int)) ∧ w' = w1 by
  have := AnyF.nextPowerOfTwo Tryz.npow127 L (by omega) w1
  rwa [hM] at this)
 have HX := Lh (fun (r X : Nat) (hX : X < 18446744073709551616) (w1 : World) h1 h2 => show Calls Tryz.prog 240 #[.pointer (some ⟨r, 0, none⟩)] w1 _ from AnyF.xorshift_Next Tryz.xnext128 r 0 X hX w1 h1 h2)
 obtain ⟨r, hr⟩ : ∃ r, w.heap.size = r := ⟨_, rfl⟩
 have hbr : b ≠ r := by omega
 have W0 := Lh (show Wr b w (w.alloc (.cells #[.int .u64 (L : Int)] 272)) from Wr.of_gr ((Gr.refl w).alloc _))
 have R0 := Lh (show RowB (w.alloc (.cells #[.int .u64 (L : Int)] 272)) b d from hw.gr ((Gr.refl w).alloc _))
 have X0 := Lh (show (w.alloc (.cells #[.int .u64 (L : Int)] 272)).cell? ⟨r, 0, none⟩ = some (.int .u64 (((UInt64.ofNat L).toNat : Nat) : Int)) ∧ (w.alloc (.cells #[.int .u64 (L : Int)] 272)).frozen? ⟨r, 0, none⟩ = false by
  have g := (Gr.refl (w.alloc (.cells #[.int .u64 (L : Int)] 272))).fresh' (j := 0) hr rfl
  rw [show (UInt64.ofNat L).toNat = L by simp; omega]
  exact ⟨g.1, g.2⟩)
 have HF := Lh (show L + a0 = b0 ∧ b0 ≤ n ∧ n ≤ 1000000 ∧ 12 < L ∧ q * 4 ≤ L ∧ a0 + q * 2 = i0 + 1 ∧ M1 + 1 = M ∧ M ≤ 2 * L by omega)
 have HR := Lh (show w.heap.size ≤ r by omega)
 have hws := hr
 obtain ⟨q2, hq2⟩ : ∃ q2, q * 2 = q2 := ⟨_, rfl⟩
 obtain ⟨i1, hi1⟩ : ∃ i1, i0 + 1 = i1 := ⟨_, rfl⟩
 obtain ⟨i2, hi2⟩ : ∃ i2, i0 + 2 = i2 := ⟨_, rfl⟩
 have HI := Lh hi2
 obtain ⟨s1, s2, s3, s4, s5, s6, s7, s7', s8, s9, s10⟩ : IntKind.i64.wrap ((b0 : Int) - (a0 : Int)) = (L : Int) ∧ IntKind.u64.wrap (L : Int) = (L : Int) ∧ (8 : Int) ≤ (L : Int) ∧ 8 ≤ L ∧ wrap64 ((L : Int) / 4) = (q : Int) ∧ wrap64 ((q : Int) * 2) = (q2 : Int) ∧ wrap64 ((a0 : Int) + (q2 : Int)) = (i1 : Int) ∧ wrap64 ((a0 : Int) + (q : Int) * 2) = (i1 : Int) ∧ wrap64 ((i1 : Int) - 1) = (i0 : Int) ∧ wrap64 ((i1 : Int) + 1) = (i2 : Int) ∧ IntKind.u64.wrap ((M : Int) - 1) = (M1 : Int) := by
  refine ⟨wsub hL (by omega), ?_, by omega, by omega, ?_, ?_, ?_, ?_, ?_, ?_, ?_⟩
  ·rw [IntKind.wrap_u64]; omega
  ·rw [IntWalk.wrap64_in _ (by omega)]; omega
  ·rw [IntWalk.wrap64_in _ (by omega)]; omega
  ·rw [IntWalk.wrap64_in _ (by omega)]; omega
  ·rw [IntWalk.wrap64_in _ (by omega)]; omega
  ·rw [IntWalk.wrap64_in _ (by omega)]; omega
  ·rw [IntWalk.wrap64_in _ (by omega)]; omega
  rw [IntKind.wrap_u64]; omega
 have HD := Lh hd
 clear hq2 hi1 hi2 hL hM hq hi0 hM1 hM2 hM1' hr hd hab hb hw hbw
 go_enter Tryz.func207, Tryz.ntmps207
 go_wp2_with (first
  | (go_at_call 239; (with_reducible refine (HN.out _).mono ?_); rintro e w1 ⟨rfl, rfl⟩))
 simp only [s5, s6, s7, s8]
 go_loopw [9] (fun v wr => ∃ (t J : Nat) (X : UInt64) (d1 : Array Int), v = .int .i64 J ∧ Hid (t ≤ 3 ∧ i0 + t = J) ∧ Hid (brk a0 L M i0 d t = (X, d1)) ∧ Hid (Wr b w wr) ∧ Hid (RowB wr b d1) ∧ Hid (d1.size = n) ∧ Hid (wr.cell? ⟨r, 0, none⟩ = some (.int .u64 ((X.toNat : Nat) : Int)) ∧ wr.frozen? ⟨r, 0, none⟩ = false)) (fun v _ => i2 + 1 - (intOf v).toNat)
 case atStart => exact ⟨0, i0, UInt64.ofNat L, d, (by first | rfl | exact congrArg _ s8), Lh (by omega), Lh rfl, W0, R0, HD, X0⟩
 case round =>
  clear W0 R0 HD X0
  obtain ⟨t, J, X, d1, rfl, ht, HK, HW1, HR1, HD1, HX1⟩ := hrel
  by_cases h3 : t = 3
  ·have HZ := Lh (show breakPatterns d a0 b0 = d1 by rw [HB.out, ← h3, HK.out])
   have g1 : ¬ J ≤ i2 := by have := ht.out; have := HI.out; clear s1 s2 s5 s6 s7 s7' s8 s9 s10; omega
   have g2 : ¬ (J : Int) ≤ (i2 : Int) := by clear s1 s2 s5 s6 s7 s7' s8 s9 s10; omega
   clear h3
   go_wp2_with fail
   go_end0
   exact ⟨rfl, HW1.out, by rw [HZ.out]; exact HR1.out⟩
  obtain ⟨Y, hY⟩ : ∃ Y, xorNextN X.toNat = Y := ⟨_, rfl⟩
  have lY : Y < 18446744073709551616 := by rw [← hY]; exact xorNextN_lt _ X.toNat_lt
  obtain ⟨o0, ho0⟩ : ∃ o0, Y &&& M1 = o0 := ⟨_, rfl⟩
  have HO0 := Lh (show o0 ≤ M1 by rw [← ho0]; exact Nat.and_le_right)
  have CX := Lh (HX.out r X.toNat X.toNat_lt _ HX1.out.1 HX1.out.2)
  rw [hY] at CX
  have HM := Lh (show M - 1 = M1 by have := HF.out; clear s1 s2 s5 s6 s7 s7' s8 s9 s10; omega)
  have HJ := Lh (show J ≤ i2 ∧ J < n ∧ i0 + t = J ∧ t < 3 by have := ht.out; have := HI.out; have := HF.out; clear s1 s2 s5 s6 s7 s7' s8 s9 s10; omega)
  have g1 : J ≤ i2 := HJ.out.1
  have g2 : (J : Int) ≤ (i2 : Int) := Int.ofNat_le.2 g1
  have u1 : bits .and .u64 (Y : Int) (M1 : Int) = (o0 : Int) := by rw [bits_and_u64_nat _ _ lY (by have := HF.out; clear s1 s2 s5 s6 s7 s7' s8 s9 s10; omega), ho0]
  have u2 : wrap64 (o0 : Int) = (o0 : Int) := IntWalk.wrap64_in _ (by have := HO0.out; have := HF.out; clear s1 s2 s5 s6 s7 s7' s8 s9 s10 u1; omega)
  have u3 : IntKind.i64.wrap (o0 : Int) = (o0 : Int) := by rw [IntWalk.i64_left]; exact u2
  have HY := Lh hY
  have HO1 := Lh ho0
  clear hY lY ho0
  by_cases hLo : L ≤ o0
  focus
   have hLo := hLo
   obtain ⟨o, ho⟩ : ∃ o, o + L = o0 := ⟨o0 - L, by clear s1 s2 s5 s6 s7 s7' s8 s9 s10 u1 u2 u3; omega⟩
   obtain ⟨K, hK⟩ : ∃ K, a0 + o = K := ⟨_, rfl⟩
   have HO := Lh (show K < n ∧ J < n by clear s1 s2 s5 s6 s7 s7' s8 s9 s10 u1 u2 u3; have := HO0.out; have := HF.out; have := HJ.out; omega)
   have HK2 := Lh (show brk a0 L M i0 d (t + 1) = (xorNext X, swp d1 J K) by
    have := brk_step HK.out HY.out (o := o) (by rw [HM.out, HO1.out]; clear s1 s2 s5 s6 s7 s7' s8 s9 s10 u1 u2 u3; split <;> omega)
    rwa [HJ.out.2.2.1, hK] at this)
   have v1 : IntKind.i64.wrap ((o0 : Int) - (L : Int)) = (o : Int) := wsub ho (by clear s1 s2 s5 s6 s7 s7' s8 s9 s10 u1 u2 u3; have := HO0.out; have := HF.out; omega)
   have v2 : IntKind.i64.wrap ((a0 : Int) + (o : Int)) = (K : Int) := wadd hK (by clear s1 s2 s5 s6 s7 s7' s8 s9 s10 u1 u2 u3 v1; have := HO.out; omega)
   have f1 : (J : Int) < (n : Int) := Int.ofNat_lt.2 HO.out.2
   have f2 : (K : Int) < (n : Int) := Int.ofNat_lt.2 HO.out.1
   have i9 : IntKind.i64.wrap ((J : Int) + 1) = ((J + 1 : Nat) : Int) := wadd1 rfl (by clear s1 s2 s5 s6 s7 s7' s8 s9 s10 u1 u2 u3 v1 v2; have := HO.out; omega)
   have h64 := Lh (show (xorNext X).toNat = Y by rw [xorNext_toNat, HY.out])
   clear hK HK
   clear ho
  rotate_left
  focus
   have hLon := hLo
   obtain ⟨o, ho⟩ : ∃ o, o = o0 := ⟨o0, by clear s1 s2 s5 s6 s7 s7' s8 s9 s10 u1 u2 u3; omega⟩
   obtain ⟨K, hK⟩ : ∃ K, a0 + o = K := ⟨_, rfl⟩
   have HO := Lh (show K < n ∧ J < n by clear s1 s2 s5 s6 s7 s7' s8 s9 s10 u1 u2 u3; have := HO0.out; have := HF.out; have := HJ.out; omega)
   have HK2 := Lh (show brk a0 L M i0 d (t + 1) = (xorNext X, swp d1 J K) by
    have := brk_step HK.out HY.out (o := o) (by rw [HM.out, HO1.out]; clear s1 s2 s5 s6 s7 s7' s8 s9 s10 u1 u2 u3; split <;> omega)
    rwa [HJ.out.2.2.1, hK] at this)
   have v1 : True := trivial
   have v2 : IntKind.i64.wrap ((a0 : Int) + (o : Int)) = (K : Int) := wadd hK (by clear s1 s2 s5 s6 s7 s7' s8 s9 s10 u1 u2 u3 v1; have := HO.out; omega)
   have f1 : (J : Int) < (n : Int) := Int.ofNat_lt.2 HO.out.2
   have f2 : (K : Int) < (n : Int) := Int.ofNat_lt.2 HO.out.1
   have i9 : IntKind.i64.wrap ((J : Int) + 1) = ((J + 1 : Nat) : Int) := wadd1 rfl (by clear s1 s2 s5 s6 s7 s7' s8 s9 s10 u1 u2 u3 v1 v2; have := HO.out; omega)
   have h64 := Lh (show (xorNext X).toNat = Y by rw [xorNext_toNat, HY.out])
   clear hK HK
   obtain rfl := ho
  all_goals
   go_wp2_with (first
    | (go_at_call 240; (with_reducible refine CX.out.mono ?_); rintro e w1 ⟨rfl, hw1⟩))
   obtain ⟨wq, hwq⟩ : ∃ wq, (wr.setCell ⟨r, 0, none⟩ (.int .u64 (Y : Int))).drewN 3 = wq := ⟨_, rfl⟩
   have HWq := Lh (show Wr b w wq by rw [← hwq]; exact (HW1.out.new ((Wr.refl r wr).set 0 (.int .u64 (Y : Int))) HR.out).drewN 3)
   have HRq := Lh (show RowB wq b d1 by rw [← hwq]; exact HR1.out.wr ((Wr.refl r wr).set 0 (.int .u64 (Y : Int)) |>.drewN 3) hbr)
   have HXq := Lh (show wq.cell? ⟨r, 0, none⟩ = some (.int .u64 ((Y : Nat) : Int)) ∧ wq.frozen? ⟨r, 0, none⟩ = false by rw [← hwq]; exact ⟨cell_near HX1.out.1 _, by simpa using HX1.out.2⟩)
   rw [hwq]
   clear hwq HW1 HR1 HX1 CX u1 u2 u3 v1
   obtain ⟨cj, fj⟩ := HRq.out J (by rw [HD1.out]; exact HO.out.2)
   obtain ⟨cp, fp⟩ := HRq.out K (by rw [HD1.out]; exact HO.out.1)
   have HS := Lh (HRq.out.swap (i := J) (j := K) (by rw [HD1.out]; exact HO.out.2) (by rw [HD1.out]; exact HO.out.1))
   have HD3 := Lh (show (swp d1 J K).size = n by rw [size_swp]; exact HD1.out)
   generalize swp d1 J K = d3 at *
   generalize d1[J]! = x at *
   generalize d1[K]! = y at *
   have cp2 := cell_same cp J
   have cj2 := cell_same cj K
   go_region
   all_goals go_wp2
   go_roundw
   case rel => exact ⟨t + 1, J + 1, xorNext X, d3, by go_num, Lh (by clear s1 s2 s5 s6 s7 s7' s8 s9 s10 v2 i9; have := HJ.out; omega), HK2, Lh ((HWq.out.set J _).set K _).drew, HS, HD3, Lh (by rw [h64.out]; exact ⟨cell_far9 (cell_far9 HXq.out.1 hbr) hbr, by simpa using HXq.out.2⟩)⟩
   case measure => clear s1 s2 s5 s6 s7 s7' s8 s9 s10 v2 i9; have := HJ.out; simp [intOf]; omega
theorem st_part : partition_stmt ltInt := partition_holds (lt := ltInt)
def St (a0 b0 n : Nat) (d : Array Int) (a b1 : Nat) (d1 : Array Int) : Prop := d1.size = n ∧ Go.Sort.Below ltInt a b1 d1 ∧ ∀ R, PermIn a b1 d1 R → SortedIn ltInt a b1 R → PermIn a0 b0 d R ∧ SortedIn ltInt a0 b0 R
theorem St.perm {a0 b0 n a b1 : Nat} {d d1 d2 : Array Int} (h : St a0 b0 n d a b1 d1) (hb : b1 ≤ n) (hp : PermIn a b1 d1 d2) : St a0 b0 n d a b1 d2 :=
 ⟨hp.1.trans h.1, Below.perm h.2.1 (by rw [h.1]; exact hb) hp, fun R h1 h2 => h.2.2 R (permIn_trans _ _ _ _ _ hp h1) h2⟩
theorem St.equal {a0 b0 n a b1 p : Nat} {d d1 : Array Int} (h : St a0 b0 n d a b1 d1) (hb : b1 ≤ n) (ha : 0 < a) (h1 : a ≤ p) (h2 : p < b1) (hl : ¬ d1[a - 1]! < d1[p]!) :
  a < (partitionEqual ltInt d1 a b1 p).1 ∧ (partitionEqual ltInt d1 a b1 p).1 ≤ b1 ∧ St a0 b0 n d (partitionEqual ltInt d1 a b1 p).1 b1 (partitionEqual ltInt d1 a b1 p).2 := by
 obtain ⟨x1, x2, x3, x4, x5⟩ := round_eq swo_ltInt (partitionEqual_holds (lt := ltInt)) (d3 := d1) (d4 := (partitionEqual ltInt d1 a b1 p).2) (mid := (partitionEqual ltInt d1 a b1 p).1) ha h1 h2 (by rw [h.1]; exact hb) h.2.1 (by unfold ltInt; exact decide_eq_false hl) rfl
 exact ⟨x1, x2, x3.trans h.1, x4, fun R r1 r2 => h.2.2 R (x5 R r1 r2).1 (x5 R r1 r2).2⟩
theorem St.part {a0 b0 n a b1 p : Nat} {d d1 : Array Int} (h : St a0 b0 n d a b1 d1) (hb : b1 ≤ n) (h1 : a ≤ p) (h2 : p < b1) :
  (a ≤ (partition ltInt d1 a b1 p).1 ∧ (partition ltInt d1 a b1 p).1 < b1) ∧ (partition ltInt d1 a b1 p).2.2.size = n ∧ Go.Sort.Below ltInt a (partition ltInt d1 a b1 p).1 (partition ltInt d1 a b1 p).2.2 ∧ Go.Sort.Below ltInt ((partition ltInt d1 a b1 p).1 + 1) b1 (partition ltInt d1 a b1 p).2.2 ∧
  (∀ L, PermIn a (partition ltInt d1 a b1 p).1 (partition ltInt d1 a b1 p).2.2 L → SortedIn ltInt a (partition ltInt d1 a b1 p).1 L → St a0 b0 n d ((partition ltInt d1 a b1 p).1 + 1) b1 L) ∧
  (∀ L, PermIn ((partition ltInt d1 a b1 p).1 + 1) b1 (partition ltInt d1 a b1 p).2.2 L → SortedIn ltInt ((partition ltInt d1 a b1 p).1 + 1) b1 L → St a0 b0 n d a (partition ltInt d1 a b1 p).1 L) := by
 obtain ⟨x1, x2, x3, x4, x5, x6, x7⟩ := round_part swo_ltInt st_part (d3 := d1) (d4 := (partition ltInt d1 a b1 p).2.2) (mid := (partition ltInt d1 a b1 p).1) (ap := (partition ltInt d1 a b1 p).2.1) h1 h2 (by rw [h.1]; exact hb) h.2.1 rfl
 refine ⟨⟨x1, x2⟩, x3.trans h.1, x4, x5, fun L l1 l2 => ?_, fun L l1 l2 => ?_⟩
 ·exact ⟨l1.1.trans (x3.trans h.1), (x6 L l1 l2).1, fun R r1 r2 => h.2.2 R ((x6 L l1 l2).2 R r1 r2).1 ((x6 L l1 l2).2 R r1 r2).2⟩
 exact ⟨l1.1.trans (x3.trans h.1), (x7 L l1 l2).1, fun R r1 r2 => h.2.2 R ((x7 L l1 l2).2 R r1 r2).1 ((x7 L l1 l2).2 R r1 r2).2⟩
def RetPdq (b a0 b0 : Nat) (d : Array Int) (w : World) (e : Ending) (w' : World) : Prop := e = .returned (.tuple #[]) ∧ Wr b w w' ∧ ∃ d', RowB w' b d' ∧ PermIn a0 b0 d d' ∧ SortedIn ltInt a0 b0 d'
theorem pdq_any (b cap n : Nat) (hn : n ≤ 1000000) : ∀ (m a0 b0 limit : Nat) (d : Array Int) (w : World), b0 - a0 = m → d.size = n → a0 ≤ b0 → b0 ≤ n → limit ≤ 64 → Go.Sort.Below ltInt a0 b0 d → RowB w b d → b < w.heap.size →
  Calls Tryz.prog 179 #[.slice (some ⟨b, 0, none⟩) n cap, .int .i64 a0, .int .i64 b0, .int .i64 limit] w (RetPdq b a0 b0 d w) := by
 intro m
 induction m using Nat.strongRecOn with
 | _ m ih =>
 intro a0 b0 limit d w hm hd hab hb hlim hB hw hbw
 have HI := Lh (fun (a b1 lim : Nat) (d1 : Array Int) (w1 : World) (h : b1 - a < m) h1 h2 h3 h4 h5 h6 h7 => ih (b1 - a) h a b1 lim d1 w1 rfl h1 h2 h3 h4 h5 h6 h7)
 have HS := Lh (show St a0 b0 n d a0 b0 d from ⟨hd, hB, fun R h1 h2 => ⟨h1, h2⟩⟩)
 have HR := Lh hw
 have HF := Lh (show a0 ≤ b0 ∧ b0 ≤ n ∧ b0 - a0 = m ∧ n ≤ 1000000 ∧ limit ≤ 64 from ⟨hab, hb, hm, hn, hlim⟩)
 have HG := Lh (fun w1 (g : Wr b w w1) => show b < w1.heap.size from Nat.lt_of_lt_of_le hbw g.size)
 clear ih hm hd hab hb hlim hB hw hbw
 go_enter Tryz.func179, Tryz.ntmps179
 go_wp2_with fail
 go_loopw [1, 2, 3, 8, 9] (fun va vb vl v8 v9 wr => ∃ (a b1 lim : Nat) (wb wp : Bool) (d1 : Array Int), va = .int .i64 a ∧ vb = .int .i64 b1 ∧ vl = .int .i64 lim ∧ v8 = .bool wb ∧ v9 = .bool wp ∧ Hid (a0 ≤ a ∧ a ≤ b1 ∧ b1 ≤ b0 ∧ lim ≤ 64) ∧ Hid (Wr b w wr) ∧ Hid (RowB wr b d1) ∧ Hid (St a0 b0 n d a b1 d1)) (fun va vb _ _ _ _ => (intOf vb - intOf va).toNat)
 case atStart => exact ⟨a0, b0, limit, true, true, d, rfl, rfl, rfl, rfl, rfl, Lh (by have := HF.out; omega), Lh (Wr.refl _ _), HR, HS⟩
 case round =>
  clear HS HR
  obtain ⟨a, b1, lim, wb, wp, d1, rfl, rfl, rfl, rfl, rfl, HA, HW1, HR1, HS1⟩ := hrel
  have ha := HA.out
  have hf := HF.out
  obtain ⟨L, hL⟩ : ∃ L, L + a = b1 := ⟨b1 - a, by omega⟩
  have HL := Lh hL
  by_cases h12 : L ≤ 12
  ·have g1 : (L : Int) ≤ 12 := by omega
   have CI := Lh (insSort_any b cap n a b1 d1 wr HS1.out.1 hn (by omega) (by omega) HR1.out)
   have HO := Lh (show PermIn a0 b0 d (insertionSort ltInt d1 a b1) ∧ SortedIn ltInt a0 b0 (insertionSort ltInt d1 a b1) by
    have := insertionSort_holds (lt := ltInt) swo_ltInt d1 a b1 (by omega) (by rw [HS1.out.1]; omega)
    exact HS1.out.2.2 _ this.1 this.2)
   have e1 : IntKind.i64.wrap ((b1 : Int) - (a : Int)) = (L : Int) := wsub hL (by omega)
   generalize insertionSort ltInt d1 a b1 = d2 at *
   clear hL ha hf
   go_wp2_with (go_at_call 205; (with_reducible refine CI.out.mono ?_); rintro e w1 ⟨rfl, g, r⟩; have GW := Lh g; have GR := Lh r; clear g r)
   go_end0
   exact ⟨rfl, HW1.out.trans GW.out, d2, GR.out, HO.out.1, HO.out.2⟩
  by_cases hl0 : lim = 0
  ·have g1 : ¬ (L : Int) ≤ 12 := by omega
   have CI := Lh (heap_any b cap n a b1 d1 wr HS1.out.1 hn (by omega) (by omega) HR1.out)
   have HO := Lh (show PermIn a0 b0 d (heapSort ltInt d1 a b1) ∧ SortedIn ltInt a0 b0 (heapSort ltInt d1 a b1) by
    have := heapSort_holds (lt := ltInt) swo_ltInt d1 a b1 (by omega) (by rw [HS1.out.1]; omega)
    exact HS1.out.2.2 _ this.1 this.2)
   have e1 : IntKind.i64.wrap ((b1 : Int) - (a : Int)) = (L : Int) := wsub hL (by omega)
   subst hl0
   generalize heapSort ltInt d1 a b1 = d2 at *
   clear hL ha hf h12
   go_wp2_with (go_at_call 206; (with_reducible refine CI.out.mono ?_); rintro e w1 ⟨rfl, g, r⟩; have GW := Lh g; have GR := Lh r; clear g r)
   go_end0
   exact ⟨rfl, HW1.out.trans GW.out, d2, GR.out, HO.out.1, HO.out.2⟩
  have g1 : ¬ (L : Int) ≤ 12 := by omega
  have g2 : ((lim : Int) == 0) = false := by simpa using hl0
  obtain ⟨l1, hl1⟩ : ∃ l1, l1 + 1 = lim := ⟨lim - 1, by omega⟩
  obtain ⟨q8, hq8⟩ : ∃ q8, L / 8 = q8 := ⟨_, rfl⟩
  have HZ := Lh (show a0 ≤ a ∧ a + 12 < b1 ∧ b1 ≤ b0 ∧ b0 ≤ n ∧ lim ≤ 64 ∧ n ≤ 1000000 ∧ l1 + 1 = lim ∧ b0 - a0 = m ∧ L + a = b1 by omega)
  obtain ⟨e1, e2, e8⟩ : IntKind.i64.wrap ((b1 : Int) - (a : Int)) = (L : Int) ∧ IntKind.i64.wrap ((lim : Int) - 1) = (l1 : Int) ∧ wrap64 ((L : Int) / 8) = (q8 : Int) := by
   refine ⟨wsub hL (by omega), wsub1 hl1 (by omega), ?_⟩
   rw [IntWalk.wrap64_in _ (by omega)]; omega
  clear h12 hl0 hl1 hq8 hL ha hf HA
  cases wb
  case' false =>
   have CB := Lh (brk_any b cap n a b1 d1 wr HS1.out.1 hn (by clear e1 e2 e8; have := HZ.out; omega) (by clear e1 e2 e8; have := HZ.out; omega) HR1.out (HG.out _ HW1.out))
   have HS2 := Lh (HS1.out.perm (by clear e1 e2 e8; have := HZ.out; omega) (breakPatterns_holds d1 a b1 (by clear e1 e2 e8; have := HZ.out; omega) (by rw [HS1.out.1]; clear e1 e2 e8; have := HZ.out; omega)))
   generalize breakPatterns d1 a b1 = d2 at *
   clear HS1
   go_wp2_with (go_at_call 207; (with_reducible refine CB.out.mono ?_); rintro e w0 ⟨rfl, g, r⟩; have GW := Lh (HW1.out.trans g); have GR := Lh r; clear g r)
   clear HR1 HW1 CB
   have HR1 := GR
   have HW1 := GW
   have HS1 := HS2
   clear GR GW HS2
   generalize hw12 : w0 = wr at *
   clear hw12
   generalize hd12 : d2 = d1 at *
   clear hd12
   generalize l1 = lz at *
   have UQ := trivial
  case' true =>
   generalize lim = lz at *
   cases wp
   case' false => have UQ := trivial
   case' true => have UP := trivial
  all_goals
   have CC := Lh (choose_any b cap n a b1 d1 wr HS1.out.1 hn (by clear e1 e2 e8; have := HZ.out; omega) (by clear e1 e2 e8; have := HZ.out; omega) HR1.out (HG.out _ HW1.out))
   have HP := Lh (choosePivot_holds ltInt d1 a b1 (by clear e1 e2 e8; have := HZ.out; omega))
   obtain ⟨cc, hcc⟩ : ∃ cc, choosePivot ltInt d1 a b1 = cc := ⟨_, rfl⟩
   rw [hcc] at CC HP
   clear hcc
   obtain ⟨p, h⟩ := cc
   simp only [] at CC HP
   cases h
   case' increasing => have UX := trivial
   case' unknown => have UX := trivial
   case' unknown => first | (clear UP; have UQ := trivial) | skip
   case' decreasing => have UD := trivial
  all_goals
   go_wp2_with (go_at_call 208; (with_reducible refine CC.out.mono ?_); rintro e w1 ⟨rfl, g⟩; have GW := Lh (HW1.out.trans (Wr.of_gr g)); have GR := Lh (HR1.out.gr g); clear g)
   clear HR1 HW1 CC
   have HR1 := GR
   have HW1 := GW
   clear GR GW
   generalize hw12 : w1 = wr at *
   clear hw12
  any_goals
   clear UD
   have CV := Lh (rev_any b cap n a b1 d1 wr HS1.out.1 hn (by clear e1 e2 e8; have := HZ.out; omega) (by clear e1 e2 e8; have := HZ.out; omega) HR1.out)
   have HS2 := Lh (HS1.out.perm (by clear e1 e2 e8; have := HZ.out; omega) (reverseRange_holds d1 a b1 (by clear e1 e2 e8; have := HZ.out; omega) (by rw [HS1.out.1]; clear e1 e2 e8; have := HZ.out; omega)))
   generalize reverseRange d1 a b1 = d2 at *
   clear HS1
   obtain ⟨p2, hp2⟩ : ∃ p2, p2 + p = b1 - 1 + a := ⟨b1 - 1 + a - p, by clear e1 e2 e8; have := HP.out; have := HZ.out; omega⟩
   obtain ⟨pa, hpa⟩ : ∃ pa, pa + a = p := ⟨p - a, by clear e1 e2 e8; have := HP.out; omega⟩
   obtain ⟨bm, hbm⟩ : ∃ bm, bm + 1 = b1 := ⟨b1 - 1, by clear e1 e2 e8; have := HZ.out; omega⟩
   have HP2 := Lh (show a ≤ p2 ∧ p2 < b1 by clear e1 e2 e8; have := HP.out; have := HZ.out; omega)
   have j1 : IntKind.i64.wrap ((b1 : Int) - 1) = (bm : Int) := wsub1 hbm (by clear e1 e2 e8; have := HZ.out; omega)
   have j2 : IntKind.i64.wrap ((p : Int) - (a : Int)) = (pa : Int) := wsub hpa (by clear e1 e2 e8; clear j1; have := HP.out; have := HZ.out; omega)
   have j3 : IntKind.i64.wrap ((bm : Int) - (pa : Int)) = (p2 : Int) := wsub (by clear e1 e2 e8; clear j1 j2; have := HP.out; have := HZ.out; omega) (by clear e1 e2 e8; clear j1 j2; have := HZ.out; omega)
   clear hp2 hpa hbm HP
   go_wp2_with (go_at_call 209; (with_reducible refine CV.out.mono ?_); rintro e w2 ⟨rfl, g, r⟩; have GW := Lh (HW1.out.trans g); have GR := Lh r; clear g r)
   have HP := HP2
   have HR1' := GR
   have HW1' := GW
   clear HR1 HW1 CV GW GR HP2 j1 j2 j3
   have HR1 := HR1'
   have HW1 := HW1'
   have HS1 := HS2
   clear HR1' HW1' HS2
   generalize hw12 : w2 = wr at *
   clear hw12
   generalize hd12 : d2 = d1 at *
   clear hd12
   generalize hp12 : p2 = p at *
   clear hp12
  any_goals clear UX
  any_goals
   clear UP
   have CS := Lh (pins_any b cap n a b1 d1 wr HS1.out.1 hn (by clear e1 e2 e8; have := HZ.out; omega) (by clear e1 e2 e8; have := HZ.out; omega) HR1.out)
   have hpi := partialInsertionSort_holds (lt := ltInt) swo_ltInt d1 a b1 (by clear e1 e2 e8; have := HZ.out; omega) (by rw [HS1.out.1]; clear e1 e2 e8; have := HZ.out; omega) HS1.out.2.1
   obtain ⟨pp, hpp⟩ : ∃ pp, partialInsertionSort ltInt d1 a b1 = pp := ⟨_, rfl⟩
   rw [hpp] at CS hpi
   clear hpp
   obtain ⟨d2, tt⟩ := pp
   simp only [] at CS hpi
   cases tt
   case true =>
    have HO := Lh (HS1.out.2.2 d2 hpi.1 (hpi.2 rfl))
    clear hpi HS1
    go_wp2_with (go_at_call 210; (with_reducible refine CS.out.mono ?_); rintro e w3 ⟨rfl, g, r⟩; have GW := Lh (HW1.out.trans g); have GR := Lh r; clear g r)
    go_end0
    exact ⟨rfl, GW.out, d2, GR.out, HO.out.1, HO.out.2⟩
   have HS2 := Lh (HS1.out.perm (by clear e1 e2 e8; have := HZ.out; omega) hpi.1)
   clear hpi HS1
   go_wp2_with (go_at_call 210; (with_reducible refine CS.out.mono ?_); rintro e w3 ⟨rfl, g, r⟩; have GW := Lh (HW1.out.trans g); have GR := Lh r; clear g r)
   clear HR1 HW1 CS
   have HR1 := GR
   have HW1 := GW
   have HS1 := HS2
   clear GR GW HS2
   generalize hw12 : w3 = wr at *
   clear hw12
   generalize hd12 : d2 = d1 at *
   clear hd12
  any_goals clear UQ
  all_goals as_aux_lemma =>
   by_cases haz : a = 0
   case' pos =>
    have z0 : ¬ 0 < a := by clear e1 e2 e8; omega
    have z0' : ¬ (0 : Int) < (a : Int) := by clear e1 e2 e8; omega
    clear haz
    go_wp2_with fail
    go_quiet (fail)
    clear z0 z0'
   case' neg =>
    obtain ⟨ap1, hap⟩ : ∃ ap1, ap1 + 1 = a := ⟨a - 1, by clear e1 e2 e8; omega⟩
    have z0 : 0 < a := by clear e1 e2 e8; omega
    have z1 : (ap1 : Int) < (n : Int) := by clear e1 e2 e8; have := HZ.out; omega
    have z2 : (p : Int) < (n : Int) := by clear e1 e2 e8; have := HZ.out; have := HP.out; omega
    have z3 : IntKind.i64.wrap ((a : Int) - 1) = (ap1 : Int) := wsub1 hap (by clear e1 e2 e8; have := HZ.out; omega)
    have HPA := Lh (show a - 1 = ap1 by clear e1 e2 e8; clear z3; omega)
    obtain ⟨ca, -⟩ := HR1.out ap1 (by rw [HS1.out.1]; clear e1 e2 e8; clear z3; have := HZ.out; omega)
    obtain ⟨cp, -⟩ := HR1.out p (by rw [HS1.out.1]; clear e1 e2 e8; clear z3; have := HZ.out; have := HP.out; omega)
    have C := Lh (fun w1 => Less8_any d1[ap1]! d1[p]! w1)
    have HQ := Lh (HS1.out.equal (p := p) (by clear e1 e2 e8; clear z3; have := HZ.out; omega) z0 HP.out.1 HP.out.2)
    rw [HPA.out] at HQ
    generalize d1[ap1]! = x at C ca cp HQ
    generalize d1[p]! = y at C ca cp HQ
    by_cases hl : x < y
    case' pos =>
     have C := Lh (fun w1 => show Calls Tryz.prog 167 #[.int .u8 x, .int .u8 y] w1 fun e w' => e = .returned (.bool true) ∧ w' = w1 by have := C.out w1; rwa [decide_eq_true hl] at this)
    case' neg =>
     have C := Lh (fun w1 => show Calls Tryz.prog 167 #[.int .u8 x, .int .u8 y] w1 fun e w' => e = .returned (.bool false) ∧ w' = w1 by have := C.out w1; rwa [decide_eq_false hl] at this)
     have HL := HQ.out hl
    all_goals
     clear HQ hl hap haz
     go_wp2_with fail
     go_quiet ((go_at_call 167; with_reducible exact Calls.quiet_of_same (C.out _)))
     clear C ca cp z0 z1 z2 z3
   all_goals
    replace HW1 := Lh (HW1.out.drewN nq)
    replace HR1 := Lh (show RowB (wr.drewN nq) b d1 from HR1.out)
    generalize wr.drewN nq = wr at *
    try clear HPA
    try
     obtain ⟨hr1, hr2, hr3⟩ := HL
     have CP := Lh (peq_any b cap n a b1 p d1 wr HS1.out.1 hn (by clear e1 e2 e8; have := HZ.out; omega) (by clear e1 e2 e8; have := HZ.out; omega) (by clear e1 e2 e8; have := HZ.out; have := HP.out; omega) HR1.out)
     obtain ⟨rr, hrr⟩ : ∃ rr, partitionEqual ltInt d1 a b1 p = rr := ⟨_, rfl⟩
     rw [hrr] at CP hr1 hr2 hr3
     clear hrr
     obtain ⟨mid, d4⟩ := rr
     simp only [] at CP hr1 hr2 hr3
     have HV := Lh (show a < mid ∧ mid ≤ b1 from ⟨hr1, hr2⟩)
     have GS2 := Lh hr3
     clear hr1 hr2 hr3 HS1 HP
     go_wp2_with (go_at_call 211; (with_reducible refine CP.out.mono ?_); rintro e w1 ⟨rfl, g, r⟩; have GW := Lh (HW1.out.trans g); have GR := Lh r; clear g r)
     go_roundw
     case rel => exact ⟨mid, b1, lz, _, _, d4, rfl, rfl, rfl, rfl, rfl, Lh (by clear e1 e2 e8; have := HZ.out; have := HV.out; omega), GW, GR, GS2⟩
     case measure => clear e1 e2 e8; have := HZ.out; have := HV.out; simp [intOf]; omega
   all_goals
    have CP := Lh (part_any b cap n a b1 p d1 wr HS1.out.1 hn (by clear e1 e2 e8; have := HZ.out; omega) (by clear e1 e2 e8; have := HZ.out; omega) (by clear e1 e2 e8; have := HZ.out; have := HP.out; omega) HR1.out)
    obtain ⟨hr1, hr2, hr3, hr4, hr5, hr6⟩ := HS1.out.part (p := p) (by clear e1 e2 e8; have := HZ.out; omega) HP.out.1 HP.out.2
    obtain ⟨rr, hrr⟩ : ∃ rr, partition ltInt d1 a b1 p = rr := ⟨_, rfl⟩
    rw [hrr] at CP hr1 hr2 hr3 hr4 hr5 hr6
    clear hrr
    obtain ⟨mid, ap, d4⟩ := rr
    simp only [] at CP hr1 hr2 hr3 hr4 hr5 hr6
    have H1 := Lh hr1
    have H2 := Lh hr2
    have H3 := Lh hr3
    have H4 := Lh hr4
    have H5 := Lh hr5
    have H6 := Lh hr6
    clear hr1 hr2 hr3 hr4 hr5 hr6
    obtain ⟨ll, hll⟩ : ∃ ll, ll + a = mid := ⟨mid - a, by clear e1 e2 e8; have := H1.out; omega⟩
    obtain ⟨rl, hrl⟩ : ∃ rl, rl + mid = b1 := ⟨b1 - mid, by clear e1 e2 e8; have := H1.out; omega⟩
    obtain ⟨m1, hm1⟩ : ∃ m1, mid + 1 = m1 := ⟨_, rfl⟩
    have HV := Lh (show ll + a = mid ∧ rl + mid = b1 ∧ mid + 1 = m1 ∧ a ≤ mid ∧ mid < b1 from ⟨hll, hrl, hm1, H1.out.1, H1.out.2⟩)
    have k1 : IntKind.i64.wrap ((mid : Int) - (a : Int)) = (ll : Int) := wsub hll (by clear e1 e2 e8; have := HZ.out; have := HV.out; omega)
    have k2 : IntKind.i64.wrap ((b1 : Int) - (mid : Int)) = (rl : Int) := wsub hrl (by clear e1 e2 e8; clear k1; have := HZ.out; have := HV.out; omega)
    have k3 : IntKind.i64.wrap ((mid : Int) + 1) = (m1 : Int) := wadd1 hm1 (by clear e1 e2 e8; clear k1 k2; have := HZ.out; have := HV.out; omega)
    rw [hm1] at H4 H5 H6
    clear hll hrl hm1
    by_cases hlr : ll < rl
    ·as_aux_lemma =>
      have k0 : (ll : Int) < (rl : Int) := by clear e1 e2 e8; clear k1 k2 k3; omega
      have CR := Lh (fun w1 (g : Wr b w w1) (h : RowB w1 b d4) => HI.out a mid lz d4 w1 (by clear e1 e2 e8; clear k1 k2 k3; have := HZ.out; have := HV.out; omega) H2.out (by clear e1 e2 e8; clear k1 k2 k3; have := HZ.out; have := HV.out; omega) (by clear e1 e2 e8; clear k1 k2 k3; have := HZ.out; have := HV.out; omega) (by clear e1 e2 e8; clear k1 k2 k3; have := HZ.out; omega) H3.out h (HG.out w1 g))
      clear hlr HS1 H1 H2 H3 H4 HP
      go_wp2_with (first
       | (go_at_call 212; (with_reducible refine CP.out.mono ?_); rintro e w1 ⟨rfl, g, r⟩; have GW := Lh (HW1.out.trans g); have GR := Lh r; clear g r)
       | (go_at_call 179; (with_reducible refine (CR.out _ GW.out GR.out).mono ?_); rintro e w2 ⟨rfl, g, d5, r, r1, r2⟩; have GW2 := Lh (GW.out.trans g); have GR2 := Lh r; have GS2 := Lh (H5.out d5 r1 r2); clear g r r1 r2))
      go_roundw
      case rel => exact ⟨m1, b1, lz, _, ap, d5, rfl, rfl, rfl, rfl, rfl, Lh (by clear e1 e2 e8; clear k1 k2 k3 k0; have := HZ.out; have := HV.out; omega), GW2, GR2, GS2⟩
      case measure => clear e1 e2 e8; clear k1 k2 k3 k0; have := HZ.out; have := HV.out; simp [intOf]; omega
    as_aux_lemma =>
     have k0 : ¬ (ll : Int) < (rl : Int) := by clear e1 e2 e8; clear k1 k2 k3; omega
     have CR := Lh (fun w1 (g : Wr b w w1) (h : RowB w1 b d4) => HI.out m1 b1 lz d4 w1 (by clear e1 e2 e8; clear k1 k2 k3; have := HZ.out; have := HV.out; omega) H2.out (by clear e1 e2 e8; clear k1 k2 k3; have := HZ.out; have := HV.out; omega) (by clear e1 e2 e8; clear k1 k2 k3; have := HZ.out; have := HV.out; omega) (by clear e1 e2 e8; clear k1 k2 k3; have := HZ.out; omega) H4.out h (HG.out w1 g))
     clear hlr HS1 H1 H2 H3 H4 HP
     go_wp2_with (first
      | (go_at_call 212; (with_reducible refine CP.out.mono ?_); rintro e w1 ⟨rfl, g, r⟩; have GW := Lh (HW1.out.trans g); have GR := Lh r; clear g r)
      | (go_at_call 179; (with_reducible refine (CR.out _ GW.out GR.out).mono ?_); rintro e w2 ⟨rfl, g, d5, r, r1, r2⟩; have GW2 := Lh (GW.out.trans g); have GR2 := Lh r; have GS2 := Lh (H6.out d5 r1 r2); clear g r r1 r2))
     go_roundw
     case rel => exact ⟨a, mid, lz, _, ap, d5, rfl, rfl, rfl, rfl, rfl, Lh (by clear e1 e2 e8; clear k1 k2 k3 k0; have := HZ.out; have := HV.out; omega), GW2, GR2, GS2⟩
     case measure => clear e1 e2 e8; clear k1 k2 k3 k0; have := HZ.out; have := HV.out; simp [intOf]; omega
end Go.Proofs.YtehdemcfeoiecaaGreatDoor
namespace Go.Proofs.YtehdemcfeoiecaaGreatDoor
open Go.RowKit Go.Firn Go.Sort Go.Shelf
theorem bitsLen_any (n : Nat) (hn : n ≤ 1000000) (w : World) : Calls Tryz.prog 180 #[.int .u64 (n : Int)] w fun e w' => e = .returned (.int .i64 ((bitsLen n : Nat) : Int)) ∧ w' = w := by
 have h := Any.bits_Len (SlLaysF0.n15.bits Tryz.blen74) (n : Int) w (by omega) (by omega)
 rw [Int.toNat_natCast, bitLen_eq _ (by omega)] at h
 exact h
theorem sort8_any (b cap n : Nat) (d : Array Int) (w : World) (hd : d.size = n) (hn : n ≤ 1000000) (hw : RowB w b d) (hb : b < w.heap.size) :
  Calls Tryz.prog 143 #[.slice (some ⟨b, 0, none⟩) n cap] w fun e w' => e = .returned (.tuple #[]) ∧ Wr b w w' ∧ ∃ d', RowB w' b d' ∧ d'.toList = d.toList.mergeSort (fun x y => decide (x ≤ y)) := by
 have hl : bitsLen n ≤ 62 := (bitsLen_le_iff n 62).2 (by omega)
 have CL := Lh (fun w1 => bitsLen_any n hn w1)
 have CP := Lh (show Calls Tryz.prog 179 #[.slice (some ⟨b, 0, none⟩) n cap, .int .i64 0, .int .i64 n, .int .i64 ((bitsLen n : Nat) : Int)] w (RetPdq b 0 n d w) from pdq_any b cap n hn _ 0 n (bitsLen n) d w rfl hd (Nat.zero_le _) (Nat.le_refl _) (by omega) (.inl rfl) hw hb)
 have HS := Lh (fun d' (h1 : PermIn 0 n d d') (h2 : SortedIn ltInt 0 n d') => show d'.toList = d.toList.mergeSort (fun x y => decide (x ≤ y)) by
  have := sorted_unique_holds (lt := ltInt) swo_ltInt (fun x y a b => by unfold ltInt at a b; simp at a b; omega) d d' (by rw [hd]; exact h1) (by rw [hd]; exact h2)
  rw [this]
  congr 1
  funext x y
  unfold ltInt
  by_cases h : x ≤ y
  ·simp [h]
  simp [h]; omega)
 have u1 : IntKind.u64.wrap (n : Int) = (n : Int) := by rw [IntKind.wrap_u64]; omega
 generalize bitsLen n = k at *
 clear hw hb hd hl
 go_enter Tryz.func143, Tryz.ntmps143
 go_wp2_with (first
  | (go_at_call 180; (with_reducible refine (CL.out _).mono ?_); rintro e w1 ⟨rfl, rfl⟩)
  | (go_at_call 179; (with_reducible refine CP.out.mono ?_); rintro e w1 ⟨rfl, g, d', r, r1, r2⟩; have G := Lh g; have R := Lh r; have E := Lh (HS.out d' r1 r2); clear g r r1 r2))
 go_end0
 exact ⟨rfl, G.out, d', R.out, E.out⟩
def kb (k : Key) : Array Int := (k.map fun b : UInt8 => (b.toNat : Int)).toArray
theorem kb_size (k : Key) : (kb k).size = k.length := by simp [kb]
theorem kb_at {k : Key} {j : Nat} (h : j < k.length) : (kb k)[j]! = ((k[j]'h).toNat : Int) := by
 unfold kb
 simp [h]
theorem kb_sort {k : Key} {d : Array Int} (h : d.toList = (kb k).toList.mergeSort (fun x y => decide (x ≤ y))) : d = kb (k.mergeSort fun a b => decide (a ≤ b)) := by
 apply Array.toList_inj.1
 rw [h]
 have e : ∀ k : Key, (kb k).toList = k.map fun b : UInt8 => (b.toNat : Int) := fun k => rfl
 rw [e, e]
 have tr : ∀ a b c : Int, decide (a ≤ b) = true → decide (b ≤ c) = true → decide (a ≤ c) = true := fun a b c h1 h2 => by simp only [decide_eq_true_eq] at *; omega
 have tt : ∀ a b : Int, (decide (a ≤ b) || decide (b ≤ a)) = true := fun a b => by simp only [Bool.or_eq_true, decide_eq_true_eq]; omega
 refine List.Perm.eq_of_pairwise (le := fun a b : Int => decide (a ≤ b) = true) (fun a b _ _ h1 h2 => ?_) (List.pairwise_mergeSort tr tt _) ?_ ((List.mergeSort_perm _ _).trans ((List.mergeSort_perm k _).map _).symm)
 ·simp only [decide_eq_true_eq] at h1 h2; omega
 rw [List.pairwise_map]
 refine (List.pairwise_mergeSort u8tr u8tot k).imp fun {a b} h => ?_
 simp only [decide_eq_true_eq, UInt8.le_iff_toNat_le] at h ⊢
 omega
end Go.Proofs.YtehdemcfeoiecaaGreatDoor
