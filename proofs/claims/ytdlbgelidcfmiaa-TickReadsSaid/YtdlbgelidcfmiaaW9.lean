/- The walk of TickReads. -/
import Derived.Test.YtdlbgelidcfmiaaW8
import Derived.Test.YtdlbgelidcfmiaaP2
namespace Go.Proofs.Ytdlbgelidcfmiaa
open Go.RowKit Go.Firn

set_option maxRecDepth 100000 in
set_option maxHeartbeats 1000000 in
theorem TickReads_ok (b : Int) (a : Option Addr) (n c : Nat) (f : Nat → Int) (w : World) (hn : n ≤ 9223372036854775807) (hr : RdI w a n f) (hb : isBits b = true) (hv : vC n f = true) :
    Calls Try.prog 3 #[.int .i64 b, .slice a n c] w (RetB true w) := by
  obtain ⟨n1, n2, hf, hm⟩ := vC_true.1 hv
  obtain ⟨b1, b2⟩ := isBits_true.1 hb
  have p0 := pw_pos b
  have p1 := pw_le b2
  have S := Lib.hid (sm_iff (n := n) p0 (fun i hi => (hf i hi).1) hm)
  have L := Lib.hid (reads_le (n := n) p0 (fun i hi => (hf i hi).1) hm)
  have M := Lib.hid (reads_mod (f := f) p0)
  have Hf := Lib.hid hf
  have Hb := Lib.hid hb
  have Hv := Lib.hid hv
  have vr := Lib.hid (show vR b n (rdg (pw b) f) = true from vR_true.2 ⟨b1, b2, n1, n2, fun i _ => rdg_bd p0 f i⟩)
  have e1 := Lib.hid (show errOf b (vC n f) = 0 by rw [hv]; simp [errOf, hb])
  have e2 := Lib.hid (show nOf (isBits b && vC n f) n = n by rw [hb, hv]; rfl)
  have e3 := Lib.hid (show errOf b (vR b n (rdg (pw b) f)) = 0 by rw [vr.out]; simp [errOf, hb])
  have e4 := Lib.hid (show nOf (vR b n (rdg (pw b) f)) n = n by rw [vr.out]; rfl)

  have hs' := shl_pwk b2
  have pz : pw b ≠ 0 := by omega
  obtain ⟨bb, o, rfl, hc⟩ := hr.at (k := 0) (by omega)
  have Hc := Lib.hid hc
  clear hf hm hb hv
  have hna : n ≤ 200 := by omega
  go_enter Try.func3, Try.ntmps3
  go_wp2_with (first
    | (go_at_call 14; refine (many_any _ _ _ _ hn).mono ?_; rintro e w' ⟨rfl, rfl⟩)
    | (go_at_call 15; refine (refValidCounts_any _ n c f _ hn hr).mono ?_; rintro e w' ⟨rfl, rfl⟩; rw [Hv.out])
    | (go_at_call 16; refine (IsBits_any _ _).mono ?_; rintro e w' ⟨rfl, rfl⟩; rw [Hb.out])
    | (go_at_call 18; refine (Readings_any b _ n c f _ hn hr).mono ?_; rintro e w1 ⟨a1, c1, rfl, hc1, hd1, hr1, hg1⟩; rw [e1.out, e2.out]; rw [e2.out] at hr1 hc1)
    | (go_at_call 19; refine (ValidReadings_any b a1 n c1 (rdg (pw b) f) _ hn hr1).mono ?_; rintro e w2 ⟨rfl, hg2⟩; rw [vr.out])
    | (go_at_call 20; refine (Counts_any b a1 n c1 (rdg (pw b) f) _ hn (hr1.gr hg2)).mono ?_; rintro e w3 ⟨a3, c3, rfl, hc3, hd3, hr3, hg3⟩; rw [e3.out, e4.out]; rw [e4.out] at hr3 hc3))
  have i0 : (0 : Int) < n := by omega
  have z0 := ((hg1.trans hg2).trans hg3).cell (hc 0 (by omega))
  simp only [Nat.add_zero] at z0
  go_quiet (fail)
  go_wp2_with fail
  have hg4 := ((hg1.trans hg2).trans hg3)
  have hg5 : Gr w (w3.drewN nq) := hg4.drewN _
  go_loopw [8, 9] (fun s i wr => ∃ k : Nat, k + 1 ≤ n ∧ i = .int .i64 ((k : Int) + 1) ∧ s = .bool (sm (pw b) f k) ∧ Gr w wr ∧ Gr w3 wr) (fun _ i _ => n - (intOf i).toNat)
  case atStart => exact ⟨0, by omega, rfl, rfl, hg5, (Gr.refl w3).drewN _⟩
  case round =>
    obtain ⟨k, hk, rfl, rfl, hg6, hg7⟩ := hrel
    by_cases hlt : k + 1 < n
    · have x1 := hg6.cell (Hc.out (k + 1) hlt)
      have x2 := hg6.cell (Hc.out k (by omega))
      have f0 := Hf.out k (by omega)
      have f1 := Hf.out (k + 1) hlt
      obtain ⟨f2, f3⟩ := f0
      obtain ⟨f4, f5⟩ := f1
      have j0 : (0 : Int) ≤ (k : Int) + 1 := by omega
      have j3 : (0 : Int) ≤ (k : Int) := by omega
      have j4 : (k : Int) < n := by omega
      have j1 : (k : Int) + 1 < n := by omega
      have j2 : ((k : Int) + 1).toNat = k + 1 := by omega
      have k2 : IntKind.i64.wrap (k : Int) = (k : Int) := IntWalk.i64_in _ (by omega)
      have k3 : IntKind.i64.wrap (f (k + 1) - f k) = f (k + 1) - f k := IntWalk.i64_in _ (by omega)
      cases hsm : sm (pw b) f k with
      | true =>
        have E := Lib.hid (show sm (pw b) f (k + 1) = decide (f (k + 1) - f k < pw b) by rw [sm, hsm, Bool.true_and])
        clear hsm
        go_wp2_with fail
        go_quiet (fail)
        go_wp2_with fail
        go_roundw
        case rel => exact ⟨k + 1, by omega, by go_num, by rw [E.out], hg6.drewN _, hg7.drewN _⟩
        case measure => simp [intOf]; omega
      | false =>
        have E := Lib.hid (show sm (pw b) f (k + 1) = false by rw [sm, hsm, Bool.false_and])
        clear hsm
        go_wp2_with fail
        go_quiet (fail)
        go_wp2_with fail
        go_roundw
        case rel => exact ⟨k + 1, by omega, by go_num, by rw [E.out], hg6.drewN _, hg7.drewN _⟩
        case measure => simp [intOf]; omega
    · have hk1 := Lib.hid (show n = k + 1 by omega)
      have hlt' : ¬ ((k : Int) + 1 < n) := by omega
      have G := Lib.hid hr3
      obtain ⟨wo, rfl⟩ : ∃ wo : World, wo = wr := ⟨_, rfl⟩
      clear hr3 hr1 hg1 hg2 hg3 hg4 hg5 z0
      go_wp2_with fail
      go_loopw [10, 11, 84] (fun _ _ i wr => ∃ k : Nat, k ≤ n ∧ i = .int .i64 k ∧ Gr w wr ∧ Gr w3 wr) (fun _ _ i _ => n - (intOf i).toNat)
      case atStart => exact ⟨0, by omega, rfl, hg6, hg7⟩
      case round =>
        obtain ⟨j, hj, rfl, hg8, hg9⟩ := hrel
        by_cases hjt : j < n
        · obtain ⟨b3, o3, rfl, hc3'⟩ := G.out.at hjt
          have x1 := hg8.cell (Hc.out j hjt)
          have x2 := hg9.cell (hc3' j hjt)
          clear hc3' G
          have f0 := Hf.out j hjt
          obtain ⟨f2, f3⟩ := f0
          have l0 := L.out j hjt
          have m0 := M.out j
          have c0 := (cst_bd (n := n) p0 (fun i _ => rdg_bd p0 f i) (j + 1) (by omega)).1
          generalize cst (pw b) (rdg (pw b) f) (j + 1) = g at *
          have j3 : (0 : Int) ≤ (j : Int) := by omega
          have j4 : (j : Int) < n := by omega
          have k3 : IntKind.i64.wrap (f j - g) = f j - g := IntWalk.i64_in _ (by omega)
          have t0 : (f j - g).tmod (pw b) = 0 := by rw [Int.tmod_eq_emod_of_nonneg (by omega)]; exact m0
          have t1 : ¬ f j < g := by omega
          clear m0
          go_wp2_with fail
          go_quiet (fail)
          go_wp2_with fail
          go_roundw
          case rel => exact ⟨j + 1, by omega, by go_num, hg8.drewN _, hg9.drewN _⟩
          case measure => simp [intOf]; omega
        · have hjn : j = n := by omega
          subst hjn
          have E := Lib.hid (show sm (pw b) f k = eqB j j (fun i => cst (pw b) (rdg (pw b) f) (i + 1)) f by
            rw [Bool.eq_iff_iff, S.out k (by have := hk1.out; omega), eqB_true]
            exact ⟨fun h => ⟨rfl, fun i hi => h i (by have := hk1.out; omega)⟩, fun h i hi => h.2 i (by have := hk1.out; omega)⟩)
          have R := Lib.hid (show RdI w (some ⟨bb, o, none⟩) j f from .inr ⟨bb, o, rfl, Hc.out⟩)
          go_wp2_with (first
            | (go_at_call 21; refine (SameInts_any a3 (some ⟨bb, o, none⟩) j c3 j c (fun i => cst (pw b) (rdg (pw b) f) (i + 1)) f _ hn hn (G.out.gr hg9) (R.out.gr hg8)).mono ?_; rintro e w5 ⟨rfl, hg10⟩; rw [← E.out])
            | (go_at_call 17; refine (Awake_any _).mono ?_; rintro e w6 ⟨rfl, hg11⟩))
          go_ret
          exact ⟨rfl, (hg8.trans hg10).trans hg11⟩

end Go.Proofs.Ytdlbgelidcfmiaa
