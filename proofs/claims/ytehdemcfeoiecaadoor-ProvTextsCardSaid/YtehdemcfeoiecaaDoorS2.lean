/- The library's sort at bytes: siftDown. -/
import Derived.Test.YtehdemcfeoiecaaDoorS1
namespace Go.Proofs.YtehdemcfeoiecaaDoor
open Go.RowKit Go.Firn Go.Sort

theorem wadd {x y z : Nat} (h : x + y = z) (hz : z ≤ 100000000) : IntKind.i64.wrap ((x : Int) + (y : Int)) = (z : Int) := by rw [IntWalk.i64_in _ (by omega)]; omega
theorem wadd1 {x z : Nat} (h : x + 1 = z) (hz : z ≤ 100000000) : IntKind.i64.wrap ((x : Int) + 1) = (z : Int) := by rw [IntWalk.i64_in _ (by omega)]; omega
theorem wsub {x y z : Nat} (h : z + y = x) (hx : x ≤ 100000000) : IntKind.i64.wrap ((x : Int) - (y : Int)) = (z : Int) := by rw [IntWalk.i64_in _ (by omega)]; omega
theorem wsub1 {x z : Nat} (h : z + 1 = x) (hx : x ≤ 100000000) : IntKind.i64.wrap ((x : Int) - 1) = (z : Int) := by rw [IntWalk.i64_in _ (by omega)]; omega
theorem wmul2 {x z : Nat} (h : 2 * x = z) (hz : z ≤ 100000000) : IntKind.i64.wrap (2 * (x : Int)) = (z : Int) := by rw [IntWalk.i64_in _ (by omega)]; omega

theorem sift_end {hi F r : Nat} {d : Array Int} (h : hi ≤ 2 * r + 1) : siftDown ltInt hi F r d = d := by
  unfold siftDown; rw [dif_pos (show 2 * r + 1 ≥ hi from h)]
theorem sift_two {hi F r : Nat} {d : Array Int} (h : 2 * r + 2 < hi) (hl : d[F + (2 * r + 1)]! < d[F + (2 * r + 1) + 1]!) :
    siftDown ltInt hi F r d = if d[F + r]! < d[F + (2 * r + 2)]! then siftDown ltInt hi F (2 * r + 2) (swp d (F + r) (F + (2 * r + 2))) else d := by
  conv => lhs; unfold siftDown
  rw [dif_neg (by omega), if_pos (by unfold ltInt; rw [decide_eq_true (show 2 * r + 1 + 1 < hi by omega), decide_eq_true hl]; rfl)]
  unfold ltInt
  by_cases h2 : d[F + r]! < d[F + (2 * r + 2)]!
  · rw [if_pos h2, decide_eq_true h2, if_neg (by simp), dif_pos h]
  · rw [if_neg h2, decide_eq_false h2, if_pos (by simp)]
theorem sift_one {hi F r : Nat} {d : Array Int} (h : 2 * r + 1 < hi) (hl : 2 * r + 2 < hi → ¬ d[F + (2 * r + 1)]! < d[F + (2 * r + 1) + 1]!) :
    siftDown ltInt hi F r d = if d[F + r]! < d[F + (2 * r + 1)]! then siftDown ltInt hi F (2 * r + 1) (swp d (F + r) (F + (2 * r + 1))) else d := by
  conv => lhs; unfold siftDown
  rw [dif_neg (by omega), if_neg (by
    unfold ltInt
    by_cases h1 : 2 * r + 2 < hi
    · rw [decide_eq_false (hl h1)]; simp
    · rw [decide_eq_false (show ¬ 2 * r + 1 + 1 < hi by omega)]; simp)]
  unfold ltInt
  by_cases h2 : d[F + r]! < d[F + (2 * r + 1)]!
  · rw [if_pos h2, decide_eq_true h2, if_neg (by simp)]
  · rw [if_neg h2, decide_eq_false h2, if_pos (by simp)]

set_option maxRecDepth 100000 in
set_option maxHeartbeats 8000000 in
theorem sift_any (b cap n lo hi F : Nat) (d : Array Int) (w : World) (hd : d.size = n) (hn : n ≤ 1000000) (hlo : lo ≤ n) (hF : F + hi ≤ n) (hw : RowB w b d) :
    Calls Tryd.prog 126 #[.slice (some ⟨b, 0, none⟩) n cap, .int .i64 lo, .int .i64 hi, .int .i64 F] w (RetW b (siftDown ltInt hi F lo d) w) := by
  have HW := Lib.hid hw
  have HD := Lib.hid hd
  clear hw hd
  go_enter Tryd.func126, Tryd.ntmps126
  go_wp2_with fail
  go_loopw [8, 9] (fun i _ wr => ∃ (r : Nat) (d1 : Array Int), i = .int .i64 r ∧ Hid (r ≤ n) ∧ Hid (Wr b w wr) ∧ Hid (RowB wr b d1) ∧ Hid (d1.size = n) ∧ Hid (siftDown ltInt hi F r d1 = siftDown ltInt hi F lo d)) (fun i _ _ => n - (intOf i).toNat)
  case atStart => exact ⟨lo, d, rfl, Lib.hid hlo, Lib.hid (Wr.refl _ _), HW, HD, Lib.hid rfl⟩
  case round =>
    obtain ⟨r, d1, rfl, hr, HW2, HR1, HD1, HE1⟩ := hrel
    obtain ⟨C0, hC0⟩ : ∃ C0, 2 * r = C0 := ⟨_, rfl⟩
    obtain ⟨c, hc⟩ : ∃ c, C0 + 1 = c := ⟨_, rfl⟩
    have hr' := hr.out
    have e1 := wmul2 hC0 (by omega)
    have e2 := wadd1 hc (by omega)
    by_cases hch : hi ≤ c
    · have HE2 := Lib.hid (show d1 = siftDown ltInt hi F lo d by rw [← HE1.out, sift_end (by omega)])
      clear hC0 hc hr'
      go_wp2_with fail
      go_end0
      exact ⟨rfl, HW2.out, by rw [← HE2.out]; exact HR1.out⟩
    · have hch2 : c < hi := by omega
      obtain ⟨c1, hc1⟩ : ∃ c1, c + 1 = c1 := ⟨_, rfl⟩
      have e3 := wadd1 hc1 (by omega)
      obtain ⟨fr, hfr⟩ : ∃ fr, F + r = fr := ⟨_, rfl⟩
      obtain ⟨fc, hfc⟩ : ∃ fc, F + c = fc := ⟨_, rfl⟩
      have e4 := wadd hfr (by omega)
      have e5 := wadd hfc (by omega)
      obtain ⟨crn, frn⟩ := HR1.out fr (by rw [HD1.out]; omega)
      obtain ⟨ccn, fcn⟩ := HR1.out fc (by rw [HD1.out]; omega)
      have i1 : (fr : Int) < (n : Int) := by omega
      have i2 : (fc : Int) < (n : Int) := by omega
      by_cases hch3 : c1 < hi
      · obtain ⟨fc1, hfc1⟩ : ∃ fc1, F + c1 = fc1 := ⟨_, rfl⟩
        obtain ⟨cc1, fc1n⟩ := HR1.out fc1 (by rw [HD1.out]; omega)
        have e6 := wadd1 (show fc + 1 = fc1 by omega) (by omega)
        have e7 := wadd hfc1 (by omega)
        have i3 : (fc1 : Int) < (n : Int) := by omega
        by_cases hl1 : d1[fc]! < d1[fc1]!
        · have HE2 := Lib.hid (show (if d1[fr]! < d1[fc1]! then siftDown ltInt hi F c1 (swp d1 fr fc1) else d1) = siftDown ltInt hi F lo d by
            have E := sift_two (hi := hi) (F := F) (r := r) (d := d1) (by omega) (by rw [show F + (2 * r + 1) = fc by omega, show fc + 1 = fc1 by omega]; exact hl1)
            rw [HE1.out, show F + r = fr by omega, show F + (2 * r + 2) = fc1 by omega, show 2 * r + 2 = c1 by omega] at E
            exact E.symm)
          have C := Lib.hid (fun w1 => show Calls Tryd.prog 93 #[.int .u8 d1[fc]!, .int .u8 d1[fc1]!] w1 fun e w' => e = .returned (.bool true) ∧ w' = w1 by have := Less8_any d1[fc]! d1[fc1]! w1; rwa [decide_eq_true hl1] at this)
          have HCC := Lib.hid C
          have HX := Lib.hid (show fc1 ≠ fr ∧ c1 ≤ n ∧ r < c1 by omega)
          obtain ⟨z, hz⟩ : ∃ z, d1[fc]! = z := ⟨_, rfl⟩
          rw [hz] at ccn C
          clear hz hl1 HE1 HCC
          go_wp2_with fail
          go_quiet ((go_at_call 93; with_reducible exact Calls.quiet_of_same (C.out _)))
          go_wp2_with fail
          clear C ccn
          replace crn : (wr.drewN nq).cell? ⟨b, fr, none⟩ = some (.int .u8 d1[fr]!) := crn
          replace cc1 : (wr.drewN nq).cell? ⟨b, fc1, none⟩ = some (.int .u8 d1[fc1]!) := cc1
          replace frn : (wr.drewN nq).frozen? ⟨b, fr, none⟩ = false := frn
          replace fc1n : (wr.drewN nq).frozen? ⟨b, fc1, none⟩ = false := fc1n
          replace HW2 := Lib.hid (HW2.out.drewN nq)
          replace HR1 := Lib.hid (show RowB (wr.drewN nq) b d1 from HR1.out)
          generalize wr.drewN nq = wp at *
          by_cases hl : d1[fr]! < d1[fc1]!
          · have HE4 := Lib.hid (show siftDown ltInt hi F c1 (swp d1 fr fc1) = siftDown ltInt hi F lo d by rw [← HE2.out, if_pos hl])
            have C := Lib.hid (fun w1 => show Calls Tryd.prog 93 #[.int .u8 d1[fr]!, .int .u8 d1[fc1]!] w1 fun e w' => e = .returned (.bool true) ∧ w' = w1 by have := Less8_any d1[fr]! d1[fc1]! w1; rwa [decide_eq_true hl] at this)
            have HS := Lib.hid (HR1.out.swap (i := fr) (j := fc1) (by rw [HD1.out]; omega) (by rw [HD1.out]; omega))
            have HD3 := Lib.hid (show (swp d1 fr fc1).size = n by rw [size_swp]; exact HD1.out)
            have HN := Lib.hid (show fr ≠ fc1 by omega)
            have HM := Lib.hid (show c1 ≤ n ∧ n - c1 < n - r by omega)
            generalize swp d1 fr fc1 = d3 at *
            generalize d1[fr]! = x at *
            generalize d1[fc1]! = y at *
            clear hl HE2 HR1 HD1 hr' hC0 hc hc1 hfr hfc hfc1 e1 e2 e3 e6
            go_wp2_with fail
            go_quiet ((go_at_call 93; with_reducible exact Calls.quiet_of_same (C.out _)))
            go_wp2_with fail
            replace HS := Lib.hid (show RowB (((wp.drewN nq).setCell ⟨b, fr, none⟩ (.int .u8 y)).setCell ⟨b, fc1, none⟩ (.int .u8 x)) b _ from HS.out)
            replace HW2 := Lib.hid (HW2.out.drewN nq)
            replace crn : (wp.drewN nq).cell? ⟨b, fr, none⟩ = some (.int .u8 x) := crn
            replace cc1 : (wp.drewN nq).cell? ⟨b, fc1, none⟩ = some (.int .u8 y) := cc1
            replace frn : (wp.drewN nq).frozen? ⟨b, fr, none⟩ = false := frn
            replace fc1n : (wp.drewN nq).frozen? ⟨b, fc1, none⟩ = false := fc1n
            generalize wp.drewN nq = wq at *
            have cp2 := cell_by (k := fr) cc1 HN.out (.int .u8 y)
            have cj2 := cell_by (k := fc1) crn HN.out.symm (.int .u8 x)
            go_region
            all_goals go_wp2
            go_roundw
            case rel => exact ⟨c1, d3, by go_num, Lib.hid HM.out.1, Lib.hid ((HW2.out.set fr _).set fc1 _).drew, HS, HD3, HE4⟩
            case measure => have := HM.out.2; simpa [intOf] using this
          · have HE4 := Lib.hid (show d1 = siftDown ltInt hi F lo d by rw [← HE2.out, if_neg hl])
            have C := Lib.hid (fun w1 => show Calls Tryd.prog 93 #[.int .u8 d1[fr]!, .int .u8 d1[fc1]!] w1 fun e w' => e = .returned (.bool false) ∧ w' = w1 by have := Less8_any d1[fr]! d1[fc1]! w1; rwa [decide_eq_false hl] at this)
            generalize d1[fr]! = x at *
            generalize d1[fc1]! = y at *
            clear hl HE2 hr' hC0 hc hc1 hfr hfc hfc1 e1 e2 e3 e6
            go_wp2_with fail
            go_quiet ((go_at_call 93; with_reducible exact Calls.quiet_of_same (C.out _)))
            go_wp2_with fail
            go_end0
            exact ⟨rfl, Lib.hid (HW2.out.drewN _) |>.out, by rw [← HE4.out]; exact HR1.out⟩
        · have HE2 := Lib.hid (show (if d1[fr]! < d1[fc]! then siftDown ltInt hi F c (swp d1 fr fc) else d1) = siftDown ltInt hi F lo d by
            have E := sift_one (hi := hi) (F := F) (r := r) (d := d1) (by omega) (fun _ => by rw [show F + (2 * r + 1) = fc by omega, show fc + 1 = fc1 by omega]; exact hl1)
            rw [HE1.out, show F + r = fr by omega, show F + (2 * r + 1) = fc by omega, show 2 * r + 1 = c by omega] at E
            exact E.symm)
          have C := Lib.hid (fun w1 => show Calls Tryd.prog 93 #[.int .u8 d1[fc]!, .int .u8 d1[fc1]!] w1 fun e w' => e = .returned (.bool false) ∧ w' = w1 by have := Less8_any d1[fc]! d1[fc1]! w1; rwa [decide_eq_false hl1] at this)
          obtain ⟨z, hz⟩ : ∃ z, d1[fc1]! = z := ⟨_, rfl⟩
          rw [hz] at cc1 C
          clear hz hl1 HE1
          go_wp2_with fail
          go_quiet ((go_at_call 93; with_reducible exact Calls.quiet_of_same (C.out _)))
          go_wp2_with fail
          clear C cc1 fc1n
          replace crn : (wr.drewN nq).cell? ⟨b, fr, none⟩ = some (.int .u8 d1[fr]!) := crn
          replace ccn : (wr.drewN nq).cell? ⟨b, fc, none⟩ = some (.int .u8 d1[fc]!) := ccn
          replace frn : (wr.drewN nq).frozen? ⟨b, fr, none⟩ = false := frn
          replace fcn : (wr.drewN nq).frozen? ⟨b, fc, none⟩ = false := fcn
          replace HW2 := Lib.hid (HW2.out.drewN nq)
          replace HR1 := Lib.hid (show RowB (wr.drewN nq) b d1 from HR1.out)
          generalize wr.drewN nq = wp at *
          by_cases hl : d1[fr]! < d1[fc]!
          · have HE4 := Lib.hid (show siftDown ltInt hi F c (swp d1 fr fc) = siftDown ltInt hi F lo d by rw [← HE2.out, if_pos hl])
            have C := Lib.hid (fun w1 => show Calls Tryd.prog 93 #[.int .u8 d1[fr]!, .int .u8 d1[fc]!] w1 fun e w' => e = .returned (.bool true) ∧ w' = w1 by have := Less8_any d1[fr]! d1[fc]! w1; rwa [decide_eq_true hl] at this)
            have HS := Lib.hid (HR1.out.swap (i := fr) (j := fc) (by rw [HD1.out]; omega) (by rw [HD1.out]; omega))
            have HD3 := Lib.hid (show (swp d1 fr fc).size = n by rw [size_swp]; exact HD1.out)
            have HN := Lib.hid (show fr ≠ fc by omega)
            have HM := Lib.hid (show c ≤ n ∧ n - c < n - r by omega)
            generalize swp d1 fr fc = d3 at *
            generalize d1[fr]! = x at *
            generalize d1[fc]! = y at *
            clear hl HE2 HR1 HD1 hr' hC0 hc hc1 hfr hfc hfc1 e1 e2 e3 e6
            go_wp2_with fail
            go_quiet ((go_at_call 93; with_reducible exact Calls.quiet_of_same (C.out _)))
            go_wp2_with fail
            replace HS := Lib.hid (show RowB (((wp.drewN nq).setCell ⟨b, fr, none⟩ (.int .u8 y)).setCell ⟨b, fc, none⟩ (.int .u8 x)) b _ from HS.out)
            replace HW2 := Lib.hid (HW2.out.drewN nq)
            replace crn : (wp.drewN nq).cell? ⟨b, fr, none⟩ = some (.int .u8 x) := crn
            replace ccn : (wp.drewN nq).cell? ⟨b, fc, none⟩ = some (.int .u8 y) := ccn
            replace frn : (wp.drewN nq).frozen? ⟨b, fr, none⟩ = false := frn
            replace fcn : (wp.drewN nq).frozen? ⟨b, fc, none⟩ = false := fcn
            generalize wp.drewN nq = wq at *
            have cp2 := cell_by (k := fr) ccn HN.out (.int .u8 y)
            have cj2 := cell_by (k := fc) crn HN.out.symm (.int .u8 x)
            go_region
            all_goals go_wp2
            go_roundw
            case rel => exact ⟨c, d3, by go_num, Lib.hid HM.out.1, Lib.hid ((HW2.out.set fr _).set fc _).drew, HS, HD3, HE4⟩
            case measure => have := HM.out.2; simpa [intOf] using this
          · have HE4 := Lib.hid (show d1 = siftDown ltInt hi F lo d by rw [← HE2.out, if_neg hl])
            have C := Lib.hid (fun w1 => show Calls Tryd.prog 93 #[.int .u8 d1[fr]!, .int .u8 d1[fc]!] w1 fun e w' => e = .returned (.bool false) ∧ w' = w1 by have := Less8_any d1[fr]! d1[fc]! w1; rwa [decide_eq_false hl] at this)
            generalize d1[fr]! = x at *
            generalize d1[fc]! = y at *
            clear hl HE2 hr' hC0 hc hc1 hfr hfc hfc1 e1 e2 e3 e6
            go_wp2_with fail
            go_quiet ((go_at_call 93; with_reducible exact Calls.quiet_of_same (C.out _)))
            go_wp2_with fail
            go_end0
            exact ⟨rfl, Lib.hid (HW2.out.drewN _) |>.out, by rw [← HE4.out]; exact HR1.out⟩
      · have HE2 := Lib.hid (show (if d1[fr]! < d1[fc]! then siftDown ltInt hi F c (swp d1 fr fc) else d1) = siftDown ltInt hi F lo d by
          have E := sift_one (hi := hi) (F := F) (r := r) (d := d1) (by omega) (fun h => absurd h (by omega))
          rw [HE1.out, show F + r = fr by omega, show F + (2 * r + 1) = fc by omega, show 2 * r + 1 = c by omega] at E
          exact E.symm)
        clear HE1
        go_wp2_with fail
        go_quiet (fail)
        go_wp2_with fail
        replace crn : (wr.drewN nq).cell? ⟨b, fr, none⟩ = some (.int .u8 d1[fr]!) := crn
        replace ccn : (wr.drewN nq).cell? ⟨b, fc, none⟩ = some (.int .u8 d1[fc]!) := ccn
        replace frn : (wr.drewN nq).frozen? ⟨b, fr, none⟩ = false := frn
        replace fcn : (wr.drewN nq).frozen? ⟨b, fc, none⟩ = false := fcn
        replace HW2 := Lib.hid (HW2.out.drewN nq)
        replace HR1 := Lib.hid (show RowB (wr.drewN nq) b d1 from HR1.out)
        generalize wr.drewN nq = wp at *
        by_cases hl : d1[fr]! < d1[fc]!
        · have HE4 := Lib.hid (show siftDown ltInt hi F c (swp d1 fr fc) = siftDown ltInt hi F lo d by rw [← HE2.out, if_pos hl])
          have C := Lib.hid (fun w1 => show Calls Tryd.prog 93 #[.int .u8 d1[fr]!, .int .u8 d1[fc]!] w1 fun e w' => e = .returned (.bool true) ∧ w' = w1 by have := Less8_any d1[fr]! d1[fc]! w1; rwa [decide_eq_true hl] at this)
          have HS := Lib.hid (HR1.out.swap (i := fr) (j := fc) (by rw [HD1.out]; omega) (by rw [HD1.out]; omega))
          have HD3 := Lib.hid (show (swp d1 fr fc).size = n by rw [size_swp]; exact HD1.out)
          have HN := Lib.hid (show fr ≠ fc by omega)
          have HM := Lib.hid (show c ≤ n ∧ n - c < n - r by omega)
          generalize swp d1 fr fc = d3 at *
          generalize d1[fr]! = x at *
          generalize d1[fc]! = y at *
          clear hl HE2 HR1 HD1 hr' hC0 hc hc1 hfr hfc e1 e2 e3
          go_wp2_with fail
          go_quiet ((go_at_call 93; with_reducible exact Calls.quiet_of_same (C.out _)))
          go_wp2_with fail
          replace HS := Lib.hid (show RowB (((wp.drewN nq).setCell ⟨b, fr, none⟩ (.int .u8 y)).setCell ⟨b, fc, none⟩ (.int .u8 x)) b _ from HS.out)
          replace HW2 := Lib.hid (HW2.out.drewN nq)
          replace crn : (wp.drewN nq).cell? ⟨b, fr, none⟩ = some (.int .u8 x) := crn
          replace ccn : (wp.drewN nq).cell? ⟨b, fc, none⟩ = some (.int .u8 y) := ccn
          replace frn : (wp.drewN nq).frozen? ⟨b, fr, none⟩ = false := frn
          replace fcn : (wp.drewN nq).frozen? ⟨b, fc, none⟩ = false := fcn
          generalize wp.drewN nq = wq at *
          have cp2 := cell_by (k := fr) ccn HN.out (.int .u8 y)
          have cj2 := cell_by (k := fc) crn HN.out.symm (.int .u8 x)
          go_region
          all_goals go_wp2
          go_roundw
          case rel => exact ⟨c, d3, by go_num, Lib.hid HM.out.1, Lib.hid ((HW2.out.set fr _).set fc _).drew, HS, HD3, HE4⟩
          case measure => have := HM.out.2; simpa [intOf] using this
        · have HE4 := Lib.hid (show d1 = siftDown ltInt hi F lo d by rw [← HE2.out, if_neg hl])
          have C := Lib.hid (fun w1 => show Calls Tryd.prog 93 #[.int .u8 d1[fr]!, .int .u8 d1[fc]!] w1 fun e w' => e = .returned (.bool false) ∧ w' = w1 by have := Less8_any d1[fr]! d1[fc]! w1; rwa [decide_eq_false hl] at this)
          generalize d1[fr]! = x at *
          generalize d1[fc]! = y at *
          clear hl HE2 hr' hC0 hc hc1 hfr hfc e1 e2 e3
          go_wp2_with fail
          go_quiet ((go_at_call 93; with_reducible exact Calls.quiet_of_same (C.out _)))
          go_wp2_with fail
          go_end0
          exact ⟨rfl, Lib.hid (HW2.out.drewN _) |>.out, by rw [← HE4.out]; exact HR1.out⟩

end Go.Proofs.YtehdemcfeoiecaaDoor
