/- The library's sort at bytes: breakPatterns. -/
import Derived.Test.YtehdemcfeoiecaaDoorS4
import Derived.Test.YtehdemcfeoiecaaDoorShelb
namespace Go.Proofs.YtehdemcfeoiecaaDoor
open Go.RowKit Go.Firn Go.Sort

/-- A cell of a block that is new. -/
theorem _root_.Go.Firn.Wr.new {b r : Nat} {w w1 w2 : World} (h : Wr b w w1) (g : Wr r w1 w2) (hr : w.heap.size ≤ r) : Wr b w w2 :=
  ⟨g.os.trans h.os, g.tape.trans h.tape, g.output.trans h.output, Nat.le_trans h.size g.size, fun k hk hne => (g.block k (Nat.lt_of_lt_of_le hk h.size) (fun e => by cases e; omega)).trans (h.block k hk hne)⟩

theorem cell_far9 {w : World} {b r j : Nat} {u v : Value} (h : w.cell? ⟨r, 0, none⟩ = some v) (hne : b ≠ r) : (w.setCell ⟨b, j, none⟩ u).cell? ⟨r, 0, none⟩ = some v := by
  rw [World.cell?_setCell_other _ _ _ _ (fun e => hne (congrArg Addr.block e))]
  exact h

/-- The rounds. -/
def brk (a L M i0 : Nat) (d : Array Int) : Nat → UInt64 × Array Int
  | 0 => (UInt64.ofNat L, d)
  | t + 1 => breakStep a L M (brk a L M i0 d t) (i0 + t)
theorem brk_is {a b L M i0 : Nat} {d : Array Int} (hL : b - a = L) (h8 : 8 ≤ L) (hM : 1 <<< bitsLen L = M) (hi : a + (L / 4) * 2 - 1 = i0) : breakPatterns d a b = (brk a L M i0 d 3).2 := by
  unfold breakPatterns
  simp only [hL]
  rw [if_pos (show L ≥ 8 from h8), hM, hi]
  rfl
theorem brk_step {a L M i0 t : Nat} {d d1 : Array Int} {r : UInt64} (h : brk a L M i0 d t = (r, d1)) {o X : Nat} (hX : xorNextN r.toNat = X) (ho : (if X &&& (M - 1) ≥ L then (X &&& (M - 1)) - L else X &&& (M - 1)) = o) :
    brk a L M i0 d (t + 1) = (xorNext r, swp d1 (i0 + t) (a + o)) := by
  show breakStep a L M (brk a L M i0 d t) (i0 + t) = _
  rw [h]
  unfold breakStep
  simp only [xorNext_toNat, hX, ho]

set_option maxRecDepth 100000 in
set_option maxHeartbeats 8000000 in
theorem brk_any (b cap n a0 b0 : Nat) (d : Array Int) (w : World) (hd : d.size = n) (hn : n ≤ 1000000) (hab : a0 + 12 < b0) (hb : b0 ≤ n) (hw : RowB w b d) (hbw : b < w.heap.size) :
    Calls Tryd.prog 98 #[.slice (some ⟨b, 0, none⟩) n cap, .int .i64 a0, .int .i64 b0] w (RetW b (breakPatterns d a0 b0) w) := by
  obtain ⟨L, hL⟩ : ∃ L, L + a0 = b0 := ⟨b0 - a0, by omega⟩
  obtain ⟨M, hM⟩ : ∃ M, 1 <<< bitsLen L = M := ⟨_, rfl⟩
  obtain ⟨q, hq⟩ : ∃ q, L / 4 = q := ⟨_, rfl⟩
  obtain ⟨i0, hi0⟩ : ∃ i0, a0 + q * 2 - 1 = i0 := ⟨_, rfl⟩
  have hM1 : 1 ≤ M := by rw [← hM, Nat.one_shiftLeft]; exact Nat.two_pow_pos _
  have hM2 : M ≤ 2 * L := by rw [← hM, Nat.one_shiftLeft]; exact two_pow_bitsLen_le (by omega)
  obtain ⟨M1, hM1'⟩ : ∃ M1, M1 + 1 = M := ⟨M - 1, by omega⟩
  have HB := Lib.hid (brk_is (d := d) (a := a0) (b := b0) (L := L) (M := M) (i0 := i0) (by omega) (by omega) hM (by rw [hq]; exact hi0))
  have HN := Lib.hid (fun w1 => show Calls Tryd.prog 127 #[.int .i64 (L : Int)] w1 fun e w' => e = .returned (.int .u64 (M : Int)) ∧ w' = w1 by
    have := AnyF.nextPowerOfTwo Tryd.npow127 L (by omega) w1
    rwa [hM] at this)
  have HX := Lib.hid (fun (r X : Nat) (hX : X < 18446744073709551616) (w1 : World) h1 h2 => show Calls Tryd.prog 128 #[.pointer (some ⟨r, 0, none⟩)] w1 _ from AnyF.xorshift_Next Tryd.xnext128 r 0 X hX w1 h1 h2)
  obtain ⟨r, hr⟩ : ∃ r, w.heap.size = r := ⟨_, rfl⟩
  have hbr : b ≠ r := by omega
  have W0 := Lib.hid (show Wr b w (w.alloc (.cells #[.int .u64 (L : Int)] 132)) from Wr.of_gr ((Gr.refl w).alloc _))
  have R0 := Lib.hid (show RowB (w.alloc (.cells #[.int .u64 (L : Int)] 132)) b d from hw.gr ((Gr.refl w).alloc _))
  have X0 := Lib.hid (show (w.alloc (.cells #[.int .u64 (L : Int)] 132)).cell? ⟨r, 0, none⟩ = some (.int .u64 (((UInt64.ofNat L).toNat : Nat) : Int)) ∧ (w.alloc (.cells #[.int .u64 (L : Int)] 132)).frozen? ⟨r, 0, none⟩ = false by
    have g := (Gr.refl (w.alloc (.cells #[.int .u64 (L : Int)] 132))).fresh' (j := 0) hr rfl
    rw [show (UInt64.ofNat L).toNat = L by simp; omega]
    exact ⟨g.1, g.2⟩)
  have HF := Lib.hid (show L + a0 = b0 ∧ b0 ≤ n ∧ n ≤ 1000000 ∧ 12 < L ∧ q * 4 ≤ L ∧ a0 + q * 2 = i0 + 1 ∧ M1 + 1 = M ∧ M ≤ 2 * L by omega)
  have HR := Lib.hid (show w.heap.size ≤ r by omega)
  have hws := hr
  obtain ⟨q2, hq2⟩ : ∃ q2, q * 2 = q2 := ⟨_, rfl⟩
  obtain ⟨i1, hi1⟩ : ∃ i1, i0 + 1 = i1 := ⟨_, rfl⟩
  obtain ⟨i2, hi2⟩ : ∃ i2, i0 + 2 = i2 := ⟨_, rfl⟩
  have HI := Lib.hid hi2
  obtain ⟨s1, s2, s3, s4, s5, s6, s7, s7', s8, s9, s10⟩ : IntKind.i64.wrap ((b0 : Int) - (a0 : Int)) = (L : Int) ∧ IntKind.u64.wrap (L : Int) = (L : Int) ∧ (8 : Int) ≤ (L : Int) ∧ 8 ≤ L ∧ wrap64 ((L : Int) / 4) = (q : Int) ∧ wrap64 ((q : Int) * 2) = (q2 : Int) ∧ wrap64 ((a0 : Int) + (q2 : Int)) = (i1 : Int) ∧ wrap64 ((a0 : Int) + (q : Int) * 2) = (i1 : Int) ∧ wrap64 ((i1 : Int) - 1) = (i0 : Int) ∧ wrap64 ((i1 : Int) + 1) = (i2 : Int) ∧ IntKind.u64.wrap ((M : Int) - 1) = (M1 : Int) := by
    refine ⟨wsub hL (by omega), ?_, by omega, by omega, ?_, ?_, ?_, ?_, ?_, ?_, ?_⟩
    · rw [IntKind.wrap_u64]; omega
    · rw [IntWalk.wrap64_in _ (by omega)]; omega
    · rw [IntWalk.wrap64_in _ (by omega)]; omega
    · rw [IntWalk.wrap64_in _ (by omega)]; omega
    · rw [IntWalk.wrap64_in _ (by omega)]; omega
    · rw [IntWalk.wrap64_in _ (by omega)]; omega
    · rw [IntWalk.wrap64_in _ (by omega)]; omega
    · rw [IntKind.wrap_u64]; omega
  have HD := Lib.hid hd
  clear hq2 hi1 hi2 hL hM hq hi0 hM1 hM2 hM1' hr hd hab hb hw hbw
  go_enter Tryd.func98, Tryd.ntmps98
  go_wp2_with (first
    | (go_at_call 127; (with_reducible refine (HN.out _).mono ?_); rintro e w1 ⟨rfl, rfl⟩))
  simp only [s5, s6, s7, s8]
  go_loopw [9] (fun v wr => ∃ (t J : Nat) (X : UInt64) (d1 : Array Int), v = .int .i64 J ∧ Hid (t ≤ 3 ∧ i0 + t = J) ∧ Hid (brk a0 L M i0 d t = (X, d1)) ∧ Hid (Wr b w wr) ∧ Hid (RowB wr b d1) ∧ Hid (d1.size = n) ∧ Hid (wr.cell? ⟨r, 0, none⟩ = some (.int .u64 ((X.toNat : Nat) : Int)) ∧ wr.frozen? ⟨r, 0, none⟩ = false)) (fun v _ => i2 + 1 - (intOf v).toNat)
  case atStart => exact ⟨0, i0, UInt64.ofNat L, d, (by first | rfl | exact congrArg _ s8), Lib.hid (by omega), Lib.hid rfl, W0, R0, HD, X0⟩
  case round =>
    clear W0 R0 HD X0
    obtain ⟨t, J, X, d1, rfl, ht, HK, HW1, HR1, HD1, HX1⟩ := hrel
    by_cases h3 : t = 3
    · have HZ := Lib.hid (show breakPatterns d a0 b0 = d1 by rw [HB.out, ← h3, HK.out])
      have g1 : ¬ J ≤ i2 := by have := ht.out; have := HI.out; clear s1 s2 s5 s6 s7 s7' s8 s9 s10; omega
      have g2 : ¬ (J : Int) ≤ (i2 : Int) := by clear s1 s2 s5 s6 s7 s7' s8 s9 s10; omega
      clear h3
      go_wp2_with fail
      go_end0
      exact ⟨rfl, HW1.out, by rw [HZ.out]; exact HR1.out⟩
    · obtain ⟨Y, hY⟩ : ∃ Y, xorNextN X.toNat = Y := ⟨_, rfl⟩
      have lY : Y < 18446744073709551616 := by rw [← hY]; exact xorNextN_lt _ X.toNat_lt
      obtain ⟨o0, ho0⟩ : ∃ o0, Y &&& M1 = o0 := ⟨_, rfl⟩
      have HO0 := Lib.hid (show o0 ≤ M1 by rw [← ho0]; exact Nat.and_le_right)
      have CX := Lib.hid (HX.out r X.toNat X.toNat_lt _ HX1.out.1 HX1.out.2)
      rw [hY] at CX
      have HM := Lib.hid (show M - 1 = M1 by have := HF.out; clear s1 s2 s5 s6 s7 s7' s8 s9 s10; omega)
      have HJ := Lib.hid (show J ≤ i2 ∧ J < n ∧ i0 + t = J ∧ t < 3 by have := ht.out; have := HI.out; have := HF.out; clear s1 s2 s5 s6 s7 s7' s8 s9 s10; omega)
      have g1 : J ≤ i2 := HJ.out.1
      have g2 : (J : Int) ≤ (i2 : Int) := Int.ofNat_le.2 g1
      have u1 : bits .and .u64 (Y : Int) (M1 : Int) = (o0 : Int) := by rw [bits_and_u64_nat _ _ lY (by have := HF.out; clear s1 s2 s5 s6 s7 s7' s8 s9 s10; omega), ho0]
      have u2 : wrap64 (o0 : Int) = (o0 : Int) := IntWalk.wrap64_in _ (by have := HO0.out; have := HF.out; clear s1 s2 s5 s6 s7 s7' s8 s9 s10 u1; omega)
      have u3 : IntKind.i64.wrap (o0 : Int) = (o0 : Int) := by rw [IntWalk.i64_left]; exact u2
      have HY := Lib.hid hY
      have HO1 := Lib.hid ho0
      clear hY lY ho0
      by_cases hLo : L ≤ o0
      · have hLo := hLo
        obtain ⟨o, ho⟩ : ∃ o, o + L = o0 := ⟨o0 - L, by clear s1 s2 s5 s6 s7 s7' s8 s9 s10 u1 u2 u3; omega⟩
        obtain ⟨K, hK⟩ : ∃ K, a0 + o = K := ⟨_, rfl⟩
        have HO := Lib.hid (show K < n ∧ J < n by clear s1 s2 s5 s6 s7 s7' s8 s9 s10 u1 u2 u3; have := HO0.out; have := HF.out; have := HJ.out; omega)
        have HK2 := Lib.hid (show brk a0 L M i0 d (t + 1) = (xorNext X, swp d1 J K) by
          have := brk_step HK.out HY.out (o := o) (by rw [HM.out, HO1.out]; clear s1 s2 s5 s6 s7 s7' s8 s9 s10 u1 u2 u3; split <;> omega)
          rwa [HJ.out.2.2.1, hK] at this)
        have v1 : IntKind.i64.wrap ((o0 : Int) - (L : Int)) = (o : Int) := wsub ho (by clear s1 s2 s5 s6 s7 s7' s8 s9 s10 u1 u2 u3; have := HO0.out; have := HF.out; omega)
        have v2 : IntKind.i64.wrap ((a0 : Int) + (o : Int)) = (K : Int) := wadd hK (by clear s1 s2 s5 s6 s7 s7' s8 s9 s10 u1 u2 u3 v1; have := HO.out; omega)
        have f1 : (J : Int) < (n : Int) := Int.ofNat_lt.2 HO.out.2
        have f2 : (K : Int) < (n : Int) := Int.ofNat_lt.2 HO.out.1
        have i9 : IntKind.i64.wrap ((J : Int) + 1) = ((J + 1 : Nat) : Int) := wadd1 rfl (by clear s1 s2 s5 s6 s7 s7' s8 s9 s10 u1 u2 u3 v1 v2; have := HO.out; omega)
        have h64 := Lib.hid (show (xorNext X).toNat = Y by rw [xorNext_toNat, HY.out])
        clear hK HK
        clear ho
        go_wp2_with (first
          | (go_at_call 128; (with_reducible refine CX.out.mono ?_); rintro e w1 ⟨rfl, hw1⟩))
        obtain ⟨wq, hwq⟩ : ∃ wq, (wr.setCell ⟨r, 0, none⟩ (.int .u64 (Y : Int))).drewN 3 = wq := ⟨_, rfl⟩
        have HWq := Lib.hid (show Wr b w wq by rw [← hwq]; exact (HW1.out.new ((Wr.refl r wr).set 0 (.int .u64 (Y : Int))) HR.out).drewN 3)
        have HRq := Lib.hid (show RowB wq b d1 by rw [← hwq]; exact HR1.out.wr ((Wr.refl r wr).set 0 (.int .u64 (Y : Int)) |>.drewN 3) hbr)
        have HXq := Lib.hid (show wq.cell? ⟨r, 0, none⟩ = some (.int .u64 ((Y : Nat) : Int)) ∧ wq.frozen? ⟨r, 0, none⟩ = false by rw [← hwq]; exact ⟨cell_near HX1.out.1 _, by simpa using HX1.out.2⟩)
        rw [hwq]
        clear hwq HW1 HR1 HX1 CX u1 u2 u3 v1
        obtain ⟨cj, fj⟩ := HRq.out J (by rw [HD1.out]; exact HO.out.2)
        obtain ⟨cp, fp⟩ := HRq.out K (by rw [HD1.out]; exact HO.out.1)
        have HS := Lib.hid (HRq.out.swap (i := J) (j := K) (by rw [HD1.out]; exact HO.out.2) (by rw [HD1.out]; exact HO.out.1))
        have HD3 := Lib.hid (show (swp d1 J K).size = n by rw [size_swp]; exact HD1.out)
        generalize swp d1 J K = d3 at *
        generalize d1[J]! = x at *
        generalize d1[K]! = y at *
        have cp2 := cell_same cp J
        have cj2 := cell_same cj K
        go_region
        all_goals go_wp2
        go_roundw
        case rel => exact ⟨t + 1, J + 1, xorNext X, d3, by go_num, Lib.hid (by clear s1 s2 s5 s6 s7 s7' s8 s9 s10 v2 i9; have := HJ.out; omega), HK2, Lib.hid ((HWq.out.set J _).set K _).drew, HS, HD3, Lib.hid (by rw [h64.out]; exact ⟨cell_far9 (cell_far9 HXq.out.1 hbr) hbr, by simpa using HXq.out.2⟩)⟩
        case measure => clear s1 s2 s5 s6 s7 s7' s8 s9 s10 v2 i9; have := HJ.out; simp [intOf]; omega
      · have hLon := hLo
        obtain ⟨o, ho⟩ : ∃ o, o = o0 := ⟨o0, by clear s1 s2 s5 s6 s7 s7' s8 s9 s10 u1 u2 u3; omega⟩
        obtain ⟨K, hK⟩ : ∃ K, a0 + o = K := ⟨_, rfl⟩
        have HO := Lib.hid (show K < n ∧ J < n by clear s1 s2 s5 s6 s7 s7' s8 s9 s10 u1 u2 u3; have := HO0.out; have := HF.out; have := HJ.out; omega)
        have HK2 := Lib.hid (show brk a0 L M i0 d (t + 1) = (xorNext X, swp d1 J K) by
          have := brk_step HK.out HY.out (o := o) (by rw [HM.out, HO1.out]; clear s1 s2 s5 s6 s7 s7' s8 s9 s10 u1 u2 u3; split <;> omega)
          rwa [HJ.out.2.2.1, hK] at this)
        have v1 : True := trivial
        have v2 : IntKind.i64.wrap ((a0 : Int) + (o : Int)) = (K : Int) := wadd hK (by clear s1 s2 s5 s6 s7 s7' s8 s9 s10 u1 u2 u3 v1; have := HO.out; omega)
        have f1 : (J : Int) < (n : Int) := Int.ofNat_lt.2 HO.out.2
        have f2 : (K : Int) < (n : Int) := Int.ofNat_lt.2 HO.out.1
        have i9 : IntKind.i64.wrap ((J : Int) + 1) = ((J + 1 : Nat) : Int) := wadd1 rfl (by clear s1 s2 s5 s6 s7 s7' s8 s9 s10 u1 u2 u3 v1 v2; have := HO.out; omega)
        have h64 := Lib.hid (show (xorNext X).toNat = Y by rw [xorNext_toNat, HY.out])
        clear hK HK
        obtain rfl := ho
        go_wp2_with (first
          | (go_at_call 128; (with_reducible refine CX.out.mono ?_); rintro e w1 ⟨rfl, hw1⟩))
        obtain ⟨wq, hwq⟩ : ∃ wq, (wr.setCell ⟨r, 0, none⟩ (.int .u64 (Y : Int))).drewN 3 = wq := ⟨_, rfl⟩
        have HWq := Lib.hid (show Wr b w wq by rw [← hwq]; exact (HW1.out.new ((Wr.refl r wr).set 0 (.int .u64 (Y : Int))) HR.out).drewN 3)
        have HRq := Lib.hid (show RowB wq b d1 by rw [← hwq]; exact HR1.out.wr ((Wr.refl r wr).set 0 (.int .u64 (Y : Int)) |>.drewN 3) hbr)
        have HXq := Lib.hid (show wq.cell? ⟨r, 0, none⟩ = some (.int .u64 ((Y : Nat) : Int)) ∧ wq.frozen? ⟨r, 0, none⟩ = false by rw [← hwq]; exact ⟨cell_near HX1.out.1 _, by simpa using HX1.out.2⟩)
        rw [hwq]
        clear hwq HW1 HR1 HX1 CX u1 u2 u3 v1
        obtain ⟨cj, fj⟩ := HRq.out J (by rw [HD1.out]; exact HO.out.2)
        obtain ⟨cp, fp⟩ := HRq.out K (by rw [HD1.out]; exact HO.out.1)
        have HS := Lib.hid (HRq.out.swap (i := J) (j := K) (by rw [HD1.out]; exact HO.out.2) (by rw [HD1.out]; exact HO.out.1))
        have HD3 := Lib.hid (show (swp d1 J K).size = n by rw [size_swp]; exact HD1.out)
        generalize swp d1 J K = d3 at *
        generalize d1[J]! = x at *
        generalize d1[K]! = y at *
        have cp2 := cell_same cp J
        have cj2 := cell_same cj K
        go_region
        all_goals go_wp2
        go_roundw
        case rel => exact ⟨t + 1, J + 1, xorNext X, d3, by go_num, Lib.hid (by clear s1 s2 s5 s6 s7 s7' s8 s9 s10 v2 i9; have := HJ.out; omega), HK2, Lib.hid ((HWq.out.set J _).set K _).drew, HS, HD3, Lib.hid (by rw [h64.out]; exact ⟨cell_far9 (cell_far9 HXq.out.1 hbr) hbr, by simpa using HXq.out.2⟩)⟩
        case measure => clear s1 s2 s5 s6 s7 s7' s8 s9 s10 v2 i9; have := HJ.out; simp [intOf]; omega

end Go.Proofs.YtehdemcfeoiecaaDoor
