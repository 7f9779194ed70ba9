/- Contracts of chapter 2: the search of the longest layer. -/
import Derived.Test.YtjokheeegcilhaaDoorW4
namespace Go.Proofs.YtjokheeegcilhaaDoor
open Go.RowKit Go.Firn

theorem pow14 {n : Nat} (h : n ≤ 14) : 2 ^ n ≤ 16384 := Nat.pow_le_pow_right (n := 2) (by omega) h

/-- The size of a set of few hits. -/
theorem size_v {n s c : Nat} (hn : n ≤ 14) (hs : s < 2 ^ n) (hc : c = cnt s.testBit n) (w : World) :
    Calls Tryd.prog 100 #[.int .u16 s] w fun e w' => e = .returned (.int .i64 (c : Nat)) ∧ ∃ m, w' = w.drewN m := by
  have h1 := size_any s w (by have := pow14 hn; omega)
  rw [cnt_small hs (by omega), ← hc] at h1
  exact h1

/-- The function literal of the search, with what it captured. -/
def tryV (bo bb bt : Nat) : Value := .func (.func 99) #[] #[.pointer (some ⟨bo, 0, none⟩), .pointer (some ⟨bb, 0, none⟩), .pointer (some ⟨bt, 0, none⟩)]

set_option maxHeartbeats 1000000 in
theorem try_any {n p b1 b2 bo bb bt : Nat} {f g : Nat → Nat} (hn : n ≤ 14) (hf : ∀ i, i < n → f i < 16384 ∧ g i < 16384) (hne : p ≠ bb ∧ b1 ≠ bb ∧ b2 ≠ bb ∧ bo ≠ bb ∧ bt ≠ bb) :
    ∀ (k i s best : Nat) (w : World), i + k = n → s < 2 ^ n → best < 2 ^ n → OrdB w p b1 b2 n f g → w.cell? ⟨bo, 0, none⟩ = some (.pointer (some ⟨p, 0, none⟩)) → w.cell? ⟨bt, 0, none⟩ = some (tryV bo bb bt) →
      w.cell? ⟨bb, 0, none⟩ = some (.int .u16 best) → w.frozen? ⟨bb, 0, none⟩ = false →
      Calls Tryd.prog 99 #[.int .i64 i, .int .u16 s, .pointer (some ⟨bo, 0, none⟩), .pointer (some ⟨bb, 0, none⟩), .pointer (some ⟨bt, 0, none⟩)] w fun e w' =>
        e = .returned (.tuple #[]) ∧ Wr bb w w' ∧ w'.cell? ⟨bb, 0, none⟩ = some (.int .u16 (srch n (fun i => f i ||| g i) k i s best : Nat)) ∧ w'.frozen? ⟨bb, 0, none⟩ = false := by
  intro k
  induction k with
  | zero =>
    intro i s best w hi hs hb O co ct cb fb
    obtain rfl : i = n := by omega
    obtain ⟨c1, hc1⟩ : ∃ c, c = cnt s.testBit i := ⟨_, rfl⟩
    obtain ⟨c2, hc2⟩ : ∃ c, c = cnt best.testBit i := ⟨_, rfl⟩
    have S1 := Lib.hid (size_v hn hs hc1)
    have S2 := Lib.hid (size_v hn hb hc2)
    have R := Lib.hid (show srch i (fun i => f i ||| g i) 0 i s best = if c2 < c1 then s else best by rw [srch, hc1, hc2])
    have o0 := O.c0
    clear hc1 hc2
    by_cases hlt : c2 < c1
    · have R' := Lib.hid (show srch i (fun i => f i ||| g i) 0 i s best = s by rw [R.out, if_pos hlt])
      clear R
      go_enter Tryd.func99, Tryd.ntmps99
      go_wp2
      go_quiet ((first | (go_at_call 100; with_reducible exact Calls.quiet_of (S1.out _)) | (go_at_call 100; with_reducible exact Calls.quiet_of (S2.out _))))
      go_wp2
      refine bodyPost_ret (results_none rfl _ _ _) rfl ?_
      exact ⟨rfl, ((Wr.refl bb w).drewN _).set 0 _, by rw [R'.out]; exact World.cell?_setCell_same _ _ _ cb, by simpa using fb⟩
    · have R' := Lib.hid (show srch i (fun i => f i ||| g i) 0 i s best = best by rw [R.out, if_neg hlt])
      clear R
      go_enter Tryd.func99, Tryd.ntmps99
      go_wp2
      go_quiet ((first | (go_at_call 100; with_reducible exact Calls.quiet_of (S1.out _)) | (go_at_call 100; with_reducible exact Calls.quiet_of (S2.out _))))
      go_wp2
      refine bodyPost_ret (results_none rfl _ _ _) rfl ?_
      exact ⟨rfl, (Wr.refl bb w).drewN _, by rw [R'.out]; exact cb, fb⟩
  | succ k ih =>
    intro i s best w hi hs hb O co ct cb fb
    have IH := Lib.hid ih
    clear ih
    have hin : i < n := by omega
    obtain ⟨c1, hc1⟩ : ∃ c, c = cnt s.testBit n := ⟨_, rfl⟩
    obtain ⟨c2, hc2⟩ : ∃ c, c = cnt best.testBit n := ⟨_, rfl⟩
    have l1 : c1 ≤ n := by rw [hc1]; exact cnt_le _ _
    have l2 : c2 ≤ n := by rw [hc2]; exact cnt_le _ _
    have S1 := Lib.hid (size_v hn hs hc1)
    have S2 := Lib.hid (size_v hn hb hc2)
    have R := Lib.hid (show srch n (fun i => f i ||| g i) (k + 1) i s best = if c1 + (k + 1) ≤ c2 then best else srch n (fun i => f i ||| g i) k (i + 1) s (if (f i ||| g i) &&& s = 0 then srch n (fun i => f i ||| g i) k (i + 1) (s ||| 2 ^ i) best else best) by rw [srch, hc1, hc2])
    have o0 := O.c0
    have o1 := O.c1
    obtain ⟨r1, _⟩ := O.r1 i hin
    obtain ⟨r2, _⟩ := O.r2 i hin
    have HO := Lib.hid O
    have t0 : ¬ (i : Int) = (n : Int) := by omega
    have i1 : (i : Int) < (n : Int) := by omega
    have t1 : ((i : Int) == (n : Int)) = false := by simp; omega
    have w1 : IntKind.i64.wrap ((c1 : Int) + (n : Int)) = (c1 : Int) + (n : Int) := IntWalk.i64_in _ (by omega)
    have w2 : IntKind.i64.wrap ((c1 : Int) + (n : Int) - (i : Int)) = (c1 : Int) + (n : Int) - (i : Int) := IntWalk.i64_in _ (by omega)
    clear hc1 hc2 O
    by_cases hle : c1 + (k + 1) ≤ c2
    · have R' := Lib.hid (show srch n (fun i => f i ||| g i) (k + 1) i s best = best by rw [R.out, if_pos hle])
      clear R
      have t2 : (c1 : Int) + (n : Int) - (i : Int) ≤ (c2 : Int) := by omega
      go_enter Tryd.func99, Tryd.ntmps99
      go_wp2
      go_quiet ((first | (go_at_call 100; with_reducible exact Calls.quiet_of (S1.out _)) | (go_at_call 100; with_reducible exact Calls.quiet_of (S2.out _))))
      go_wp2
      refine bodyPost_ret (results_none rfl _ _ _) rfl ?_
      exact ⟨rfl, (Wr.refl bb w).drewN _, by rw [R'.out]; exact cb, fb⟩
    · have R1 := Lib.hid (show srch n (fun i => f i ||| g i) (k + 1) i s best = _ by rw [R.out, if_neg hle])
      clear R
      have t2 : ¬ (c1 : Int) + (n : Int) - (i : Int) ≤ (c2 : Int) := by omega
      have ff := hf i hin
      have p14 := pow14 hn
      have e1 := or_u16 (a := f i) (b := g i) (by omega) (by omega)
      have hor : f i ||| g i < 16384 := Nat.or_lt_two_pow (n := 14) ff.1 ff.2
      have e2 := and_u16 (a := f i ||| g i) (b := s) (by omega) (by omega)
      have w3 : IntKind.i64.wrap ((i : Int) + 1) = (i : Int) + 1 := IntWalk.i64_in _ (by omega)
      have HS := Lib.hid hs
      have HB := Lib.hid hb
      by_cases hz : (f i ||| g i) &&& s = 0
      · have R' := Lib.hid (show srch n (fun i => f i ||| g i) (k + 1) i s best = srch n (fun i => f i ||| g i) k (i + 1) s (srch n (fun i => f i ||| g i) k (i + 1) (s ||| 2 ^ i) best) by rw [R1.out, if_pos hz])
        rw [hz] at e2
        have e3 := shl_u16 (show i ≤ 15 by omega)
        have e4 := orp_u16 (x := s) (a := i) (by omega) (by omega)
        have hs' := Lib.hid (show s ||| 2 ^ i < 2 ^ n from Nat.or_lt_two_pow hs (Nat.pow_lt_pow_right (by omega) (by omega)))
        have hx1 := Lib.hid (srch_lt (fun i => f i ||| g i) k (i + 1) (s ||| 2 ^ i) best (by omega) hs'.out hb)
        have IH1 := Lib.hid (show ∀ wz : World, OrdB wz p b1 b2 n f g → wz.cell? ⟨bo, 0, none⟩ = some (.pointer (some ⟨p, 0, none⟩)) → wz.cell? ⟨bt, 0, none⟩ = some (tryV bo bb bt) → wz.cell? ⟨bb, 0, none⟩ = some (.int .u16 (best : Nat)) → wz.frozen? ⟨bb, 0, none⟩ = false →
          Calls Tryd.prog 99 #[.int .i64 ((i : Int) + 1), .int .u16 (s ||| 2 ^ i : Nat), .pointer (some ⟨bo, 0, none⟩), .pointer (some ⟨bb, 0, none⟩), .pointer (some ⟨bt, 0, none⟩)] wz fun e w' =>
            e = .returned (.tuple #[]) ∧ Wr bb wz w' ∧ w'.cell? ⟨bb, 0, none⟩ = some (.int .u16 (srch n (fun i => f i ||| g i) k (i + 1) (s ||| 2 ^ i) best : Nat)) ∧ w'.frozen? ⟨bb, 0, none⟩ = false from
          fun wz => IH.out (i + 1) (s ||| 2 ^ i) best wz (by omega) hs'.out HB.out)
        have IH2 := Lib.hid (show ∀ wz : World, OrdB wz p b1 b2 n f g → wz.cell? ⟨bo, 0, none⟩ = some (.pointer (some ⟨p, 0, none⟩)) → wz.cell? ⟨bt, 0, none⟩ = some (tryV bo bb bt) → wz.cell? ⟨bb, 0, none⟩ = some (.int .u16 (srch n (fun i => f i ||| g i) k (i + 1) (s ||| 2 ^ i) best : Nat)) → wz.frozen? ⟨bb, 0, none⟩ = false →
          Calls Tryd.prog 99 #[.int .i64 ((i : Int) + 1), .int .u16 (s : Nat), .pointer (some ⟨bo, 0, none⟩), .pointer (some ⟨bb, 0, none⟩), .pointer (some ⟨bt, 0, none⟩)] wz fun e w' =>
            e = .returned (.tuple #[]) ∧ Wr bb wz w' ∧ w'.cell? ⟨bb, 0, none⟩ = some (.int .u16 (srch n (fun i => f i ||| g i) (k + 1) i s best : Nat)) ∧ w'.frozen? ⟨bb, 0, none⟩ = false from by
          rw [R'.out]
          exact fun wz => IH.out (i + 1) s _ wz (by omega) HS.out hx1.out)
        generalize srch n (fun i => f i ||| g i) k (i + 1) (s ||| 2 ^ i) best = x1 at IH1 IH2
        clear R1 hs hb ff hor p14 hz IH R' hx1 hs'
        go_enter Tryd.func99, Tryd.ntmps99
        go_wp2
        go_quiet ((first | (go_at_call 100; with_reducible exact Calls.quiet_of (S1.out _)) | (go_at_call 100; with_reducible exact Calls.quiet_of (S2.out _))))
        go_wp2
        go_quiet (fail)
        go_wp2
        generalize hwa : World.drewN _ _ = wa
        have Oa := Lib.hid (show OrdB wa p b1 b2 n f g by rw [← hwa]; exact (HO.out.gr (((Gr.refl w).drewN _).drewN _)))
        have coa : wa.cell? ⟨bo, 0, none⟩ = some (.pointer (some ⟨p, 0, none⟩)) := by rw [← hwa]; exact co
        have cta : wa.cell? ⟨bt, 0, none⟩ = some (tryV bo bb bt) := by rw [← hwa]; exact ct
        have cba := Lib.hid (show wa.cell? ⟨bb, 0, none⟩ = some (.int .u16 best) by rw [← hwa]; exact cb)
        have fba := Lib.hid (show wa.frozen? ⟨bb, 0, none⟩ = false by rw [← hwa]; exact fb)
        have ga := Lib.hid (show Wr bb w wa by rw [← hwa]; exact ((Wr.refl bb w).drewN _).drewN _)
        clear hwa co ct cb fb HO o0 o1 r1 r2
        go_cut [60] from 53 to 60 (fun _ wx => Hid (OrdB wx p b1 b2 n f g) ∧ wx.cell? ⟨bo, 0, none⟩ = some (.pointer (some ⟨p, 0, none⟩)) ∧ wx.cell? ⟨bt, 0, none⟩ = some (tryV bo bb bt) ∧ Hid (wx.cell? ⟨bb, 0, none⟩ = some (.int .u16 (x1 : Nat))) ∧ Hid (wx.frozen? ⟨bb, 0, none⟩ = false) ∧ Hid (Wr bb w wx))
        case first =>
          unfold tryV at cta
          go_region_held3 (fun w' => w'.cell? ⟨bt, 0, none⟩ = some (.func (.func 99) #[] #[.pointer (some ⟨bo, 0, none⟩), .pointer (some ⟨bb, 0, none⟩), .pointer (some ⟨bt, 0, none⟩)])) (first | go_keep | exact e1t) ((go_at_call 99; refine (IH1.out wa.drew Oa.out.drew coa cta cba.out fba.out).mono ?_; rintro e w2 ⟨rfl, g2, c2', f2'⟩; have e1t := Wr.cell g2 (p := ⟨bt, 0, none⟩) cta hne.2.2.2.2))
          all_goals go_wp2_with fail
          all_goals go_meet
          all_goals exact ⟨OrdB.wr (OrdB.drew Oa.out) g2 hne.1 hne.2.1 hne.2.2.1, Wr.cell g2 (p := ⟨bo, 0, none⟩) coa hne.2.2.2.1, e1t, c2', f2', (Wr.drew ga.out).trans g2⟩
        case rest =>
          obtain ⟨Ob, cob, ctb, cbb, fbb, gb⟩ := hcut
          have CTB := Lib.hid ctb
          unfold tryV at ctb
          go_wp2_with (go_at_call 99; refine (IH2.out wc Ob.out cob CTB.out cbb.out fbb.out).mono ?_; rintro e w2 ⟨rfl, g2, c2', f2'⟩)
          go_end0
          exact ⟨rfl, gb.out.trans g2, c2', f2'⟩
      · have R' := Lib.hid (show srch n (fun i => f i ||| g i) (k + 1) i s best = srch n (fun i => f i ||| g i) k (i + 1) s best by rw [R1.out, if_neg hz])
        have hz' : ¬ (((f i ||| g i) &&& s : Nat) : Int) = 0 := by omega
        have hz2 : ((((f i ||| g i) &&& s : Nat) : Int) == 0) = false := by simpa using hz
        have IH2 := Lib.hid (show ∀ wz : World, OrdB wz p b1 b2 n f g → wz.cell? ⟨bo, 0, none⟩ = some (.pointer (some ⟨p, 0, none⟩)) → wz.cell? ⟨bt, 0, none⟩ = some (tryV bo bb bt) → wz.cell? ⟨bb, 0, none⟩ = some (.int .u16 (best : Nat)) → wz.frozen? ⟨bb, 0, none⟩ = false →
          Calls Tryd.prog 99 #[.int .i64 ((i : Int) + 1), .int .u16 (s : Nat), .pointer (some ⟨bo, 0, none⟩), .pointer (some ⟨bb, 0, none⟩), .pointer (some ⟨bt, 0, none⟩)] wz fun e w' =>
            e = .returned (.tuple #[]) ∧ Wr bb wz w' ∧ w'.cell? ⟨bb, 0, none⟩ = some (.int .u16 (srch n (fun i => f i ||| g i) (k + 1) i s best : Nat)) ∧ w'.frozen? ⟨bb, 0, none⟩ = false from by
          rw [R'.out]
          exact fun wz => IH.out (i + 1) s _ wz (by omega) HS.out HB.out)
        clear R1 hs hb ff hor p14 hz IH R'
        go_enter Tryd.func99, Tryd.ntmps99
        go_wp2
        go_quiet ((first | (go_at_call 100; with_reducible exact Calls.quiet_of (S1.out _)) | (go_at_call 100; with_reducible exact Calls.quiet_of (S2.out _))))
        go_wp2
        go_quiet (fail)
        have cta := Lib.hid ct
        unfold tryV at ct
        go_wp2_with (go_at_call 99; refine (IH2.out _ (HO.out.gr ((Gr.refl w).drewN _)) co cta.out cb fb).mono ?_; rintro e w2 ⟨rfl, g2, c2', f2'⟩)
        go_end0
        exact ⟨rfl, ((Wr.refl bb w).drewN _).trans g2, c2', f2'⟩

end Go.Proofs.YtjokheeegcilhaaDoor
