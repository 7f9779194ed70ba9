import Derived.Test.YtehdemcfeoiecaaGreatDoorA07
import Derived.Test.YtehdemcfeoiecaaGreatDoorA09
set_option maxHeartbeats 64000000
set_option maxRecDepth 100000
namespace Go.Proofs.YtehdemcfeoiecaaGreatDoor.RI
open Go.RowKit Go.Firn Go.Firn.Tb
def SymH (b cap n : Nat) (c : Nat → Rw) (K : Nat → List Int) (d : Nat) : Prop := ∀ (a m e : Nat) (R : Nat → Nat) (w : World), e - a < d → a < m → m < e → e ≤ n → Two K R a m e → (∀ p, p < n → R p < n) → Row2 w b n R c → CmpOk w b n c K →
  Calls Tryz.prog 202 #[.slice (some ⟨b, 0, none⟩) n cap, .int .i64 a, .int .i64 m, .int .i64 e, .func (.func 133) #[] #[]] w (RetSr b n c (fun R' => Srt' K R' a e ∧ Prm a e R R') w)
theorem symM1_any (b cap n a m e : Nat) (R : Nat → Nat) (c : Nat → Rw) (K : Nat → List Int) (w : World) (hn : n ≤ 1000) (hem : e ≠ m + 1) (ham : a < m) (hme : m < e) (he : e ≤ n) (hcase : (a + e) / 2 < m) (hT : Two K R a m e) (hR : ∀ p, p < n → R p < n) (hw : Row2 w b n R c) (hC : CmpOk w b n c K) (ih : SymH b cap n c K (e - a)) :
  Calls Tryz.prog 202 #[.slice (some ⟨b, 0, none⟩) n cap, .int .i64 a, .int .i64 m, .int .i64 e, .func (.func 133) #[] #[]] w (RetSr b n c (fun R' => Srt' K R' a e ∧ Prm a e R R') w) := by
 have HW := Lh hw
 have HC0 := Lh hC
 have IH := Lh ih
 have HT2 := Lh hT
 have HRn := Lh hR
 have hcf := cfC
 obtain ⟨ma, hma'⟩ : ∃ ma, ma = m - a := ⟨_, rfl⟩
 obtain ⟨em, hem'⟩ : ∃ em, em = e - m := ⟨_, rfl⟩
 obtain ⟨mid, hmid⟩ : ∃ mid, mid = (a + e) / 2 := ⟨_, rfl⟩
 obtain ⟨nn, hnn⟩ : ∃ nn, nn = mid + m := ⟨_, rfl⟩
 obtain ⟨pp, hpp⟩ : ∃ pp, pp = mid + m - 1 := ⟨_, rfl⟩
 obtain ⟨s0, hs0⟩ : ∃ s0, s0 = mid + m - e := ⟨_, rfl⟩
 obtain ⟨r0, hr0⟩ : ∃ r0, r0 = mid := ⟨_, rfl⟩
 rw [← hmid] at hcase
 have HX := Lh (show n ≤ 1000 ∧ a + 1 < m ∧ m + 1 < e ∧ e ≤ n ∧ a < mid ∧ mid < e ∧ nn = mid + m ∧ pp = mid + m - 1 ∧ a ≤ s0 ∧ s0 ≤ r0 ∧ r0 ≤ m ∧ r0 ≤ mid ∧ mid + m ≤ s0 + e from by omega)
 have HD := Lh (show (mid < m ∧ s0 = mid + m - e ∧ r0 = mid ∧ a ≤ s0) ∨ (m ≤ mid ∧ s0 = a ∧ r0 = m ∧ mid + m - a ≤ e) from by omega)
 have e0 : IntKind.i64.wrap ((m : Int) - (a : Int)) = (ma : Int) := by rw [IntWalk.i64_in _ (by omega)]; omega
 have e0' : ((ma : Int) == 1) = false := by rw [beq_eq_false_iff_ne]; omega
 have e1 : IntKind.i64.wrap ((e : Int) - (m : Int)) = (em : Int) := by rw [IntWalk.i64_in _ (by omega)]; omega
 have e1' : ((em : Int) == 1) = false := by rw [beq_eq_false_iff_ne]; omega
 obtain ⟨t1, t2, t3, t4⟩ := half_wrap (i := a) (j := e) (by omega)
 rw [← hmid] at t3 t4
 have e2 : IntKind.i64.wrap ((mid : Int) + (m : Int)) = (nn : Int) := by rw [IntWalk.i64_in _ (by omega)]; omega
 have e3 : IntKind.i64.wrap ((nn : Int) - 1) = (pp : Int) := by rw [IntWalk.i64_in _ (by omega)]; omega
 have e4 : IntKind.i64.wrap ((nn : Int) - (e : Int)) = (s0 : Int) := by rw [IntWalk.i64_in _ (by omega)]; omega
 have c1 : (mid : Int) < (m : Int) := by omega
 clear hw hn hem ham hme he hT hR hC ih hcase hma' hem' hmid hnn hpp hs0 hr0
 go_enter Tryz.func202, Tryz.ntmps202
 go_wp2_with fail
 go_loopw [20, 21] (fun s t wr => ∃ (i j : Nat), s = .int .i64 i ∧ t = .int .i64 j ∧ Hid (s0 ≤ i ∧ i ≤ j ∧ j ≤ r0) ∧ Hid (Gr w wr) ∧ Hid (s0 < i → ¬ K (R (mid + m - i)) < K (R (i - 1))) ∧ Hid (j < r0 → K (R (mid + m - 1 - j)) < K (R j))) (fun s t _ => (intOf t).toNat - (intOf s).toNat)
 case atStart => exact ⟨s0, r0, rfl, by rw [show r0 = mid by have := HD.out; omega], Lh (by have := HX.out; omega), Lh (Gr.refl w), Lh (fun h => by omega), Lh (fun h => by omega)⟩
 case round =>
  clear e0 e0' e1 e1' t1 t2 t3 t4 e2 e3 e4 c1
  obtain ⟨i, j, rfl, rfl, Hij, HG, HLo, HHi⟩ := hrel
  by_cases hlt : i < j
  ·have i1 : (i : Int) < (j : Int) := by omega
   have hb := HX.out
   have hi := Hij.out
   obtain ⟨h, hh⟩ : ∃ h, h = (i + j) / 2 := ⟨_, rfl⟩
   obtain ⟨z, hz⟩ : ∃ z, z = mid + m - 1 - h := ⟨_, rfl⟩
   have HH := Lh (show i ≤ h ∧ h < j ∧ z = mid + m - 1 - h ∧ mid + m - (h + 1) = z from by omega)
   have q1 : (h : Int) < (n : Int) := by omega
   have q2 : (z : Int) < (n : Int) := by omega
   have HRw := Lh (HW.out.gr HG.out)
   obtain ⟨a1, a2, _, _⟩ := HRw.out z (by omega)
   obtain ⟨b1, b2, _, _⟩ := HRw.out h (by omega)
   have HC := Lh (fun w' (g : Gr wr w') => HC0.out w' (Wr.of_gr (HG.out.trans g)) (R z) (R h) (HRn.out _ (by omega)) (HRn.out _ (by omega)))
   have HE := Lh (cmpI_neg (x := K (R z)) (y := K (R h)))
   have HYes := Lh (show K (R z) < K (R h) → h < r0 → K (R (mid + m - 1 - h)) < K (R h) from fun hl _ => by rw [← hz]; exact hl)
   have HNo := Lh (show ¬ K (R z) < K (R h) → s0 < h + 1 → ¬ K (R (mid + m - (h + 1))) < K (R (h + 1 - 1)) from fun hl _ => by rw [show mid + m - (h + 1) = z by omega, Nat.add_sub_cancel]; exact hl)
   obtain ⟨s1, s2, s3, s4⟩ := half_wrap (i := i) (j := j) (by omega)
   rw [← hh] at s3 s4
   have s5 : IntKind.i64.wrap ((pp : Int) - (h : Int)) = (z : Int) := by rw [IntWalk.i64_in _ (by omega)]; omega
   clear hh hb hi hlt hz
   generalize c (R z) = x at *
   generalize c (R h) = y at *
   generalize K (R z) = kx at *
   generalize hky : K (R h) = ky at *
   have HKy := Lh hky
   clear hky
   obtain ⟨xa, xn, xc, xy⟩ := x
   obtain ⟨ya, yn, yc, yy⟩ := y
   simp only at a1 a2 b1 b2 HC
   go_wp2_with fail
   refine Hg (fun w' => Gr wr w') 14 ?_
   have hS : Gr wr wr.drew := (Gr.refl wr).drew
   refine H5 0 1 2 3 4 (c4 a1 a2 b1 b2) hS ?_; refine H5 5 6 7 8 9 (c4 a1 a2 b1 b2) hS ?_; refine H1 10 (c4 a1 a2 b1 b2) hS ?_
   refine Hr 11 rfl (fun K hK => ?_)
   go_simp
   refine ⟨trivial, ?_⟩
   refine (callsIn_wide.2 (HC.out _ hS)).mono ?_
   rintro e wX ⟨rfl, gX⟩
   have hS : Gr wr wX := hS.trans gX
   refine hK.out _ _ hS ?_
   clear hK K gX
   refine H2 12 13 tv hS ?_
   refine Hd ?_
   clear HC a1 a2 b1 b2 s1 s2 s3 s4 s5
   have HG2 := Lh (HG.out.trans hS)
   clear hS
   have hb := HX.out
   have hi := Hij.out
   have hh := HH.out
   generalize hz : decide (cmpI kx ky < 0) = z at *
   cases z with
   | true =>
    have hl : kx < ky := HE.out.1 (of_decide_eq_true hz)
    have HHi2 := Lh (HYes.out hl)
    clear HYes HNo HE hl hz
    go_wp2_with fail
    go_roundw
    case rel => exact ⟨i, h, rfl, rfl, Lh (by omega), HG2, HLo, Lh (by rw [HKy.out]; exact HHi2.out)⟩
    case measure => simp only [intOf]; omega
   | false =>
    have hl : ¬ kx < ky := fun h => of_decide_eq_false hz (HE.out.2 h)
    have HLo2 := Lh (HNo.out hl)
    clear HYes HNo HE hl hz
    have e3 : wrap64 ((h : Int) + 1) = ((h + 1 : Nat) : Int) := by rw [IntWalk.wrap64_in _ (by omega)]; omega
    have o1 : s0 ≤ h + 1 ∧ h + 1 ≤ j ∧ j ≤ r0 := by clear e3; omega
    have o2 : i < h + 1 := by clear e3; omega
    clear hb hi hh
    go_wp2_with fail
    go_roundw
    case rel => exact ⟨h + 1, j, by first | (rw [e3]) | rfl | simp, rfl, Lh o1, HG2, HLo2, HHi⟩
    case measure => first | (rw [e3]; clear e3; simp only [intOf]; omega) | (clear e3; simp only [intOf]; omega)
  have hb := HX.out
  have hi := Hij.out
  obtain rfl : i = j := by omega
  have j1 : ¬ (i : Int) < (i : Int) := by omega
  have HCut := Lh (cut_found (K := K) (R := R) (a := a) (m := m) (e := e) (mid := mid) (st := i) (s0 := s0) (r0 := r0) (by omega) (by omega) HT2.out.2.2 HD.out (by omega) HLo.out HHi.out)
  obtain ⟨F1, F2, F3⟩ := cut_parts (by omega) (by omega) HCut.out HT2.out.1 HT2.out.2.1 HT2.out.2.2
  obtain ⟨st, hst⟩ : ∃ st, st = i := ⟨_, rfl⟩
  subst hst
  obtain ⟨en, hen⟩ : ∃ en, mid + m - st = en := ⟨_, rfl⟩
  rw [hen] at F1 F2 F3
  obtain ⟨S, hS⟩ : ∃ S, rot R st m en = S := ⟨_, rfl⟩
  have HSe := Lh hS
  have HSp := Lh (show Prm a e R S by
   rw [← hS]
   rcases Nat.lt_or_ge en m with h | h
   ·omega
   exact (Prm.rot R (by omega) h).wide (by omega) (by omega))
  rw [hS] at F1 F2 F3
  have HF1 := Lh (show Two K S a st mid from F1)
  have HF2 := Lh (show Two K S mid en e from F2)
  have HF3 := Lh F3
  have HSn := Lh (prm_lt HSp.out (show e ≤ n by omega) HRn.out)
  replace HX := Lh (show n ≤ 1000 ∧ a < mid ∧ mid < e ∧ e ≤ n ∧ a ≤ st ∧ st ≤ mid ∧ mid ≤ en ∧ en ≤ e ∧ st ≤ m ∧ m ≤ en from by omega)
  have HRw := Lh (HW.out.gr HG.out)
  have HG0 := Lh (show Wr b w wr from Wr.of_gr HG.out)
  have x1 : (st = m ∨ st < m) ∧ (en = m ∨ m < en) ∧ (a = st ∨ a < st) ∧ (st = mid ∨ st < mid) ∧ (mid = en ∨ mid < en) ∧ (en = e ∨ en < e) := by omega
  have e5 : IntKind.i64.wrap ((nn : Int) - (st : Int)) = (en : Int) := by rw [IntWalk.i64_in _ (by omega)]; omega
  clear hb hi hen hS F1 F2 F3 HCut HW HT2 HRn HG
  rcases (show (st < m ∧ m < en) ∨ (¬ st < m) ∨ (st < m ∧ ¬ m < en) by omega) with kr | kr | kr <;> rcases (show (a < st ∧ st < mid) ∨ (¬ a < st) ∨ (a < st ∧ ¬ st < mid) by omega) with ka | ka | ka <;> rcases (show (mid < en ∧ en < e) ∨ (¬ mid < en) ∨ (mid < en ∧ ¬ en < e) by omega) with kb | kb | kb
  ·as_aux_lemma =>
   have i1 : (st : Int) < (m : Int) := by omega
   have i2 : (m : Int) < (en : Int) := by omega
   have i3 : (a : Int) < (st : Int) := by omega
   have i4 : (st : Int) < (mid : Int) := by omega
   have i5 : (mid : Int) < (en : Int) := by omega
   have i6 : (en : Int) < (e : Int) := by omega
   have HBr := Lh ka
   have HBs := Lh kb
   have CR := Lh (rotate_any b cap n st m en R c wr (.func (.func 133) #[] #[]) (by have := HX.out; omega) (by omega) (by omega) (by have := HX.out; omega) HRw.out)
   rw [HSe.out] at CR
   clear kr ka kb HLo HHi
   go_wp2_with (first
    | (go_at_call 235; (with_reducible refine CR.out.mono ?_); rintro e w1 ⟨rfl, g1, r1⟩; have G1 := Lh (HG0.out.trans g1); have R1 := Lh r1; have C1 := Lh (IH.out a st mid S w1 (by have := HX.out; have := HBr.out; omega) (by have := HBr.out; omega) (by have := HBr.out; omega) (by have := HX.out; omega) HF1.out HSn.out R1.out (HC0.out.wr G1.out)); clear g1 r1 CR)
    | (go_at_call 202; (with_reducible refine C1.out.mono ?_); rintro e w2 ⟨rfl, T, g2, r2, t1, t2⟩; have G2 := Lh (G1.out.trans g2); have R2 := Lh r2; have HT := Lh (And.intro t1 t2); have C2 := Lh (IH.out mid en e T w2 (by have := HX.out; have := HBs.out; omega) (by have := HBs.out; omega) (by have := HBs.out; omega) (by have := HX.out; omega) (HF2.out.keep t2 (by have := HX.out; omega)) (prm_lt t2 (by have := HX.out; omega) HSn.out) R2.out (HC0.out.wr G2.out)); clear g2 r2 t1 t2 C1)
    | (go_at_call 202; (with_reducible refine C2.out.mono ?_); rintro e w3 ⟨rfl, U, g3, r3, t1, t2⟩; have G3 := Lh (G2.out.trans g3); have R3 := Lh r3; have HU := Lh (And.intro t1 t2); clear g3 r3 t1 t2 C2))
   all_goals (go_end0; exact ⟨rfl, U, G3.out, R3.out, mrg_end (by have := HX.out; omega) (by have := HX.out; omega) HSp.out HF3.out HT.out.1 HT.out.2 HU.out.1 HU.out.2⟩)
  ·as_aux_lemma =>
   have i1 : (st : Int) < (m : Int) := by omega
   have i2 : (m : Int) < (en : Int) := by omega
   have i3 : (a : Int) < (st : Int) := by omega
   have i4 : (st : Int) < (mid : Int) := by omega
   have i5 : ¬ (mid : Int) < (en : Int) := by omega
   have HBr := Lh ka
   have HU0 := Lh (HF2.out.one (by omega))
   have CR := Lh (rotate_any b cap n st m en R c wr (.func (.func 133) #[] #[]) (by have := HX.out; omega) (by omega) (by omega) (by have := HX.out; omega) HRw.out)
   rw [HSe.out] at CR
   clear kr ka kb HLo HHi
   go_wp2_with (first
    | (go_at_call 235; (with_reducible refine CR.out.mono ?_); rintro e w1 ⟨rfl, g1, r1⟩; have G1 := Lh (HG0.out.trans g1); have R1 := Lh r1; have C1 := Lh (IH.out a st mid S w1 (by have := HX.out; have := HBr.out; omega) (by have := HBr.out; omega) (by have := HBr.out; omega) (by have := HX.out; omega) HF1.out HSn.out R1.out (HC0.out.wr G1.out)); clear g1 r1 CR)
    | (go_at_call 202; (with_reducible refine C1.out.mono ?_); rintro e w2 ⟨rfl, T, g2, r2, t1, t2⟩; have G2 := Lh (G1.out.trans g2); have R2 := Lh r2; have HT := Lh (And.intro t1 t2); clear g2 r2 t1 t2 C1))
   all_goals (go_end0; exact ⟨rfl, T, G2.out, R2.out, mrg_end (by have := HX.out; omega) (by have := HX.out; omega) HSp.out HF3.out HT.out.1 HT.out.2 (HU0.out.congr fun q k1 _ => HT.out.2.out q (.inr k1)) (Prm.refl _ _ _)⟩)
  ·as_aux_lemma =>
   have i1 : (st : Int) < (m : Int) := by omega
   have i2 : (m : Int) < (en : Int) := by omega
   have i3 : (a : Int) < (st : Int) := by omega
   have i4 : (st : Int) < (mid : Int) := by omega
   have i5 : (mid : Int) < (en : Int) := by omega
   have i6 : ¬ (en : Int) < (e : Int) := by omega
   have HBr := Lh ka
   have HU0 := Lh (HF2.out.one (by omega))
   have CR := Lh (rotate_any b cap n st m en R c wr (.func (.func 133) #[] #[]) (by have := HX.out; omega) (by omega) (by omega) (by have := HX.out; omega) HRw.out)
   rw [HSe.out] at CR
   clear kr ka kb HLo HHi
   go_wp2_with (first
    | (go_at_call 235; (with_reducible refine CR.out.mono ?_); rintro e w1 ⟨rfl, g1, r1⟩; have G1 := Lh (HG0.out.trans g1); have R1 := Lh r1; have C1 := Lh (IH.out a st mid S w1 (by have := HX.out; have := HBr.out; omega) (by have := HBr.out; omega) (by have := HBr.out; omega) (by have := HX.out; omega) HF1.out HSn.out R1.out (HC0.out.wr G1.out)); clear g1 r1 CR)
    | (go_at_call 202; (with_reducible refine C1.out.mono ?_); rintro e w2 ⟨rfl, T, g2, r2, t1, t2⟩; have G2 := Lh (G1.out.trans g2); have R2 := Lh r2; have HT := Lh (And.intro t1 t2); clear g2 r2 t1 t2 C1))
   all_goals (go_end0; exact ⟨rfl, T, G2.out, R2.out, mrg_end (by have := HX.out; omega) (by have := HX.out; omega) HSp.out HF3.out HT.out.1 HT.out.2 (HU0.out.congr fun q k1 _ => HT.out.2.out q (.inr k1)) (Prm.refl _ _ _)⟩)
  ·as_aux_lemma =>
   have i1 : (st : Int) < (m : Int) := by omega
   have i2 : (m : Int) < (en : Int) := by omega
   have i3 : ¬ (a : Int) < (st : Int) := by omega
   have i5 : (mid : Int) < (en : Int) := by omega
   have i6 : (en : Int) < (e : Int) := by omega
   have HBs := Lh kb
   have HT0 := Lh (HF1.out.one (by omega))
   have CR := Lh (rotate_any b cap n st m en R c wr (.func (.func 133) #[] #[]) (by have := HX.out; omega) (by omega) (by omega) (by have := HX.out; omega) HRw.out)
   rw [HSe.out] at CR
   clear kr ka kb HLo HHi
   go_wp2_with (first
    | (go_at_call 235; (with_reducible refine CR.out.mono ?_); rintro e w1 ⟨rfl, g1, r1⟩; have G1 := Lh (HG0.out.trans g1); have R1 := Lh r1; have G2 := G1; have C2 := Lh (IH.out mid en e S w1 (by have := HX.out; have := HBs.out; omega) (by have := HBs.out; omega) (by have := HBs.out; omega) (by have := HX.out; omega) HF2.out HSn.out R1.out (HC0.out.wr G1.out)); clear g1 r1 CR)
    | (go_at_call 202; (with_reducible refine C2.out.mono ?_); rintro e w3 ⟨rfl, U, g3, r3, t1, t2⟩; have G3 := Lh (G2.out.trans g3); have R3 := Lh r3; have HU := Lh (And.intro t1 t2); clear g3 r3 t1 t2 C2))
   all_goals (go_end0; exact ⟨rfl, U, G3.out, R3.out, mrg_end (by have := HX.out; omega) (by have := HX.out; omega) HSp.out HF3.out HT0.out (Prm.refl _ _ _) HU.out.1 HU.out.2⟩)
  ·as_aux_lemma =>
   have i1 : (st : Int) < (m : Int) := by omega
   have i2 : (m : Int) < (en : Int) := by omega
   have i3 : ¬ (a : Int) < (st : Int) := by omega
   have i5 : ¬ (mid : Int) < (en : Int) := by omega
   have HT0 := Lh (HF1.out.one (by omega))
   have HU0 := Lh (HF2.out.one (by omega))
   have CR := Lh (rotate_any b cap n st m en R c wr (.func (.func 133) #[] #[]) (by have := HX.out; omega) (by omega) (by omega) (by have := HX.out; omega) HRw.out)
   rw [HSe.out] at CR
   clear kr ka kb HLo HHi
   go_wp2_with (first
    | (go_at_call 235; (with_reducible refine CR.out.mono ?_); rintro e w1 ⟨rfl, g1, r1⟩; have G1 := Lh (HG0.out.trans g1); have R1 := Lh r1; have G2 := G1; clear g1 r1 CR))
   all_goals (go_end0; exact ⟨rfl, S, G2.out, R1.out, mrg_end (by have := HX.out; omega) (by have := HX.out; omega) HSp.out HF3.out HT0.out (Prm.refl _ _ _) HU0.out (Prm.refl _ _ _)⟩)
  ·as_aux_lemma =>
   have i1 : (st : Int) < (m : Int) := by omega
   have i2 : (m : Int) < (en : Int) := by omega
   have i3 : ¬ (a : Int) < (st : Int) := by omega
   have i5 : (mid : Int) < (en : Int) := by omega
   have i6 : ¬ (en : Int) < (e : Int) := by omega
   have HT0 := Lh (HF1.out.one (by omega))
   have HU0 := Lh (HF2.out.one (by omega))
   have CR := Lh (rotate_any b cap n st m en R c wr (.func (.func 133) #[] #[]) (by have := HX.out; omega) (by omega) (by omega) (by have := HX.out; omega) HRw.out)
   rw [HSe.out] at CR
   clear kr ka kb HLo HHi
   go_wp2_with (first
    | (go_at_call 235; (with_reducible refine CR.out.mono ?_); rintro e w1 ⟨rfl, g1, r1⟩; have G1 := Lh (HG0.out.trans g1); have R1 := Lh r1; have G2 := G1; clear g1 r1 CR))
   all_goals (go_end0; exact ⟨rfl, S, G2.out, R1.out, mrg_end (by have := HX.out; omega) (by have := HX.out; omega) HSp.out HF3.out HT0.out (Prm.refl _ _ _) HU0.out (Prm.refl _ _ _)⟩)
  ·as_aux_lemma =>
   have i1 : (st : Int) < (m : Int) := by omega
   have i2 : (m : Int) < (en : Int) := by omega
   have i3 : (a : Int) < (st : Int) := by omega
   have i4 : ¬ (st : Int) < (mid : Int) := by omega
   have i5 : (mid : Int) < (en : Int) := by omega
   have i6 : (en : Int) < (e : Int) := by omega
   have HBs := Lh kb
   have HT0 := Lh (HF1.out.one (by omega))
   have CR := Lh (rotate_any b cap n st m en R c wr (.func (.func 133) #[] #[]) (by have := HX.out; omega) (by omega) (by omega) (by have := HX.out; omega) HRw.out)
   rw [HSe.out] at CR
   clear kr ka kb HLo HHi
   go_wp2_with (first
    | (go_at_call 235; (with_reducible refine CR.out.mono ?_); rintro e w1 ⟨rfl, g1, r1⟩; have G1 := Lh (HG0.out.trans g1); have R1 := Lh r1; have G2 := G1; have C2 := Lh (IH.out mid en e S w1 (by have := HX.out; have := HBs.out; omega) (by have := HBs.out; omega) (by have := HBs.out; omega) (by have := HX.out; omega) HF2.out HSn.out R1.out (HC0.out.wr G1.out)); clear g1 r1 CR)
    | (go_at_call 202; (with_reducible refine C2.out.mono ?_); rintro e w3 ⟨rfl, U, g3, r3, t1, t2⟩; have G3 := Lh (G2.out.trans g3); have R3 := Lh r3; have HU := Lh (And.intro t1 t2); clear g3 r3 t1 t2 C2))
   all_goals (go_end0; exact ⟨rfl, U, G3.out, R3.out, mrg_end (by have := HX.out; omega) (by have := HX.out; omega) HSp.out HF3.out HT0.out (Prm.refl _ _ _) HU.out.1 HU.out.2⟩)
  ·as_aux_lemma =>
   have i1 : (st : Int) < (m : Int) := by omega
   have i2 : (m : Int) < (en : Int) := by omega
   have i3 : (a : Int) < (st : Int) := by omega
   have i4 : ¬ (st : Int) < (mid : Int) := by omega
   have i5 : ¬ (mid : Int) < (en : Int) := by omega
   have HT0 := Lh (HF1.out.one (by omega))
   have HU0 := Lh (HF2.out.one (by omega))
   have CR := Lh (rotate_any b cap n st m en R c wr (.func (.func 133) #[] #[]) (by have := HX.out; omega) (by omega) (by omega) (by have := HX.out; omega) HRw.out)
   rw [HSe.out] at CR
   clear kr ka kb HLo HHi
   go_wp2_with (first
    | (go_at_call 235; (with_reducible refine CR.out.mono ?_); rintro e w1 ⟨rfl, g1, r1⟩; have G1 := Lh (HG0.out.trans g1); have R1 := Lh r1; have G2 := G1; clear g1 r1 CR))
   all_goals (go_end0; exact ⟨rfl, S, G2.out, R1.out, mrg_end (by have := HX.out; omega) (by have := HX.out; omega) HSp.out HF3.out HT0.out (Prm.refl _ _ _) HU0.out (Prm.refl _ _ _)⟩)
  ·as_aux_lemma =>
   have i1 : (st : Int) < (m : Int) := by omega
   have i2 : (m : Int) < (en : Int) := by omega
   have i3 : (a : Int) < (st : Int) := by omega
   have i4 : ¬ (st : Int) < (mid : Int) := by omega
   have i5 : (mid : Int) < (en : Int) := by omega
   have i6 : ¬ (en : Int) < (e : Int) := by omega
   have HT0 := Lh (HF1.out.one (by omega))
   have HU0 := Lh (HF2.out.one (by omega))
   have CR := Lh (rotate_any b cap n st m en R c wr (.func (.func 133) #[] #[]) (by have := HX.out; omega) (by omega) (by omega) (by have := HX.out; omega) HRw.out)
   rw [HSe.out] at CR
   clear kr ka kb HLo HHi
   go_wp2_with (first
    | (go_at_call 235; (with_reducible refine CR.out.mono ?_); rintro e w1 ⟨rfl, g1, r1⟩; have G1 := Lh (HG0.out.trans g1); have R1 := Lh r1; have G2 := G1; clear g1 r1 CR))
   all_goals (go_end0; exact ⟨rfl, S, G2.out, R1.out, mrg_end (by have := HX.out; omega) (by have := HX.out; omega) HSp.out HF3.out HT0.out (Prm.refl _ _ _) HU0.out (Prm.refl _ _ _)⟩)
  ·as_aux_lemma =>
   have i1 : ¬ (st : Int) < (m : Int) := by omega
   have i3 : (a : Int) < (st : Int) := by omega
   have i4 : (st : Int) < (mid : Int) := by omega
   have i5 : (mid : Int) < (en : Int) := by omega
   have i6 : (en : Int) < (e : Int) := by omega
   have HBr := Lh ka
   have HBs := Lh kb
   obtain rfl : R = S := by rw [← HSe.out]; exact (rot_id R (by omega)).symm
   have G1 := HG0
   have R1 := HRw
   clear kr ka kb HLo HHi
   have C1 := Lh (IH.out a st mid R wr (by have := HX.out; have := HBr.out; omega) (by have := HBr.out; omega) (by have := HBr.out; omega) (by have := HX.out; omega) HF1.out HSn.out R1.out (HC0.out.wr G1.out))
   go_wp2_with (first
    | (go_at_call 202; (with_reducible refine C1.out.mono ?_); rintro e w2 ⟨rfl, T, g2, r2, t1, t2⟩; have G2 := Lh (G1.out.trans g2); have R2 := Lh r2; have HT := Lh (And.intro t1 t2); have C2 := Lh (IH.out mid en e T w2 (by have := HX.out; have := HBs.out; omega) (by have := HBs.out; omega) (by have := HBs.out; omega) (by have := HX.out; omega) (HF2.out.keep t2 (by have := HX.out; omega)) (prm_lt t2 (by have := HX.out; omega) HSn.out) R2.out (HC0.out.wr G2.out)); clear g2 r2 t1 t2 C1)
    | (go_at_call 202; (with_reducible refine C2.out.mono ?_); rintro e w3 ⟨rfl, U, g3, r3, t1, t2⟩; have G3 := Lh (G2.out.trans g3); have R3 := Lh r3; have HU := Lh (And.intro t1 t2); clear g3 r3 t1 t2 C2))
   all_goals (go_end0; exact ⟨rfl, U, G3.out, R3.out, mrg_end (by have := HX.out; omega) (by have := HX.out; omega) HSp.out HF3.out HT.out.1 HT.out.2 HU.out.1 HU.out.2⟩)
  ·as_aux_lemma =>
   have i1 : ¬ (st : Int) < (m : Int) := by omega
   have i3 : (a : Int) < (st : Int) := by omega
   have i4 : (st : Int) < (mid : Int) := by omega
   have i5 : ¬ (mid : Int) < (en : Int) := by omega
   have HBr := Lh ka
   have HU0 := Lh (HF2.out.one (by omega))
   obtain rfl : R = S := by rw [← HSe.out]; exact (rot_id R (by omega)).symm
   have G1 := HG0
   have R1 := HRw
   clear kr ka kb HLo HHi
   have C1 := Lh (IH.out a st mid R wr (by have := HX.out; have := HBr.out; omega) (by have := HBr.out; omega) (by have := HBr.out; omega) (by have := HX.out; omega) HF1.out HSn.out R1.out (HC0.out.wr G1.out))
   go_wp2_with (first
    | (go_at_call 202; (with_reducible refine C1.out.mono ?_); rintro e w2 ⟨rfl, T, g2, r2, t1, t2⟩; have G2 := Lh (G1.out.trans g2); have R2 := Lh r2; have HT := Lh (And.intro t1 t2); clear g2 r2 t1 t2 C1))
   all_goals (go_end0; exact ⟨rfl, T, G2.out, R2.out, mrg_end (by have := HX.out; omega) (by have := HX.out; omega) HSp.out HF3.out HT.out.1 HT.out.2 (HU0.out.congr fun q k1 _ => HT.out.2.out q (.inr k1)) (Prm.refl _ _ _)⟩)
  ·as_aux_lemma =>
   have i1 : ¬ (st : Int) < (m : Int) := by omega
   have i3 : (a : Int) < (st : Int) := by omega
   have i4 : (st : Int) < (mid : Int) := by omega
   have i5 : (mid : Int) < (en : Int) := by omega
   have i6 : ¬ (en : Int) < (e : Int) := by omega
   have HBr := Lh ka
   have HU0 := Lh (HF2.out.one (by omega))
   obtain rfl : R = S := by rw [← HSe.out]; exact (rot_id R (by omega)).symm
   have G1 := HG0
   have R1 := HRw
   clear kr ka kb HLo HHi
   have C1 := Lh (IH.out a st mid R wr (by have := HX.out; have := HBr.out; omega) (by have := HBr.out; omega) (by have := HBr.out; omega) (by have := HX.out; omega) HF1.out HSn.out R1.out (HC0.out.wr G1.out))
   go_wp2_with (first
    | (go_at_call 202; (with_reducible refine C1.out.mono ?_); rintro e w2 ⟨rfl, T, g2, r2, t1, t2⟩; have G2 := Lh (G1.out.trans g2); have R2 := Lh r2; have HT := Lh (And.intro t1 t2); clear g2 r2 t1 t2 C1))
   all_goals (go_end0; exact ⟨rfl, T, G2.out, R2.out, mrg_end (by have := HX.out; omega) (by have := HX.out; omega) HSp.out HF3.out HT.out.1 HT.out.2 (HU0.out.congr fun q k1 _ => HT.out.2.out q (.inr k1)) (Prm.refl _ _ _)⟩)
  ·as_aux_lemma =>
   have i1 : ¬ (st : Int) < (m : Int) := by omega
   have i3 : ¬ (a : Int) < (st : Int) := by omega
   have i5 : (mid : Int) < (en : Int) := by omega
   have i6 : (en : Int) < (e : Int) := by omega
   have HBs := Lh kb
   have HT0 := Lh (HF1.out.one (by omega))
   obtain rfl : R = S := by rw [← HSe.out]; exact (rot_id R (by omega)).symm
   have G1 := HG0
   have R1 := HRw
   clear kr ka kb HLo HHi
   have G2 := G1
   have C2 := Lh (IH.out mid en e R wr (by have := HX.out; have := HBs.out; omega) (by have := HBs.out; omega) (by have := HBs.out; omega) (by have := HX.out; omega) HF2.out HSn.out R1.out (HC0.out.wr G1.out))
   go_wp2_with (first
    | (go_at_call 202; (with_reducible refine C2.out.mono ?_); rintro e w3 ⟨rfl, U, g3, r3, t1, t2⟩; have G3 := Lh (G2.out.trans g3); have R3 := Lh r3; have HU := Lh (And.intro t1 t2); clear g3 r3 t1 t2 C2))
   all_goals (go_end0; exact ⟨rfl, U, G3.out, R3.out, mrg_end (by have := HX.out; omega) (by have := HX.out; omega) HSp.out HF3.out HT0.out (Prm.refl _ _ _) HU.out.1 HU.out.2⟩)
  ·as_aux_lemma =>
   have i1 : ¬ (st : Int) < (m : Int) := by omega
   have i3 : ¬ (a : Int) < (st : Int) := by omega
   have i5 : ¬ (mid : Int) < (en : Int) := by omega
   have HT0 := Lh (HF1.out.one (by omega))
   have HU0 := Lh (HF2.out.one (by omega))
   obtain rfl : R = S := by rw [← HSe.out]; exact (rot_id R (by omega)).symm
   have G1 := HG0
   have R1 := HRw
   clear kr ka kb HLo HHi
   have G2 := G1
   go_wp2_with fail
   all_goals (go_end0; exact ⟨rfl, R, G2.out, R1.out, mrg_end (by have := HX.out; omega) (by have := HX.out; omega) HSp.out HF3.out HT0.out (Prm.refl _ _ _) HU0.out (Prm.refl _ _ _)⟩)
  ·as_aux_lemma =>
   have i1 : ¬ (st : Int) < (m : Int) := by omega
   have i3 : ¬ (a : Int) < (st : Int) := by omega
   have i5 : (mid : Int) < (en : Int) := by omega
   have i6 : ¬ (en : Int) < (e : Int) := by omega
   have HT0 := Lh (HF1.out.one (by omega))
   have HU0 := Lh (HF2.out.one (by omega))
   obtain rfl : R = S := by rw [← HSe.out]; exact (rot_id R (by omega)).symm
   have G1 := HG0
   have R1 := HRw
   clear kr ka kb HLo HHi
   have G2 := G1
   go_wp2_with fail
   all_goals (go_end0; exact ⟨rfl, R, G2.out, R1.out, mrg_end (by have := HX.out; omega) (by have := HX.out; omega) HSp.out HF3.out HT0.out (Prm.refl _ _ _) HU0.out (Prm.refl _ _ _)⟩)
  ·as_aux_lemma =>
   have i1 : ¬ (st : Int) < (m : Int) := by omega
   have i3 : (a : Int) < (st : Int) := by omega
   have i4 : ¬ (st : Int) < (mid : Int) := by omega
   have i5 : (mid : Int) < (en : Int) := by omega
   have i6 : (en : Int) < (e : Int) := by omega
   have HBs := Lh kb
   have HT0 := Lh (HF1.out.one (by omega))
   obtain rfl : R = S := by rw [← HSe.out]; exact (rot_id R (by omega)).symm
   have G1 := HG0
   have R1 := HRw
   clear kr ka kb HLo HHi
   have G2 := G1
   have C2 := Lh (IH.out mid en e R wr (by have := HX.out; have := HBs.out; omega) (by have := HBs.out; omega) (by have := HBs.out; omega) (by have := HX.out; omega) HF2.out HSn.out R1.out (HC0.out.wr G1.out))
   go_wp2_with (first
    | (go_at_call 202; (with_reducible refine C2.out.mono ?_); rintro e w3 ⟨rfl, U, g3, r3, t1, t2⟩; have G3 := Lh (G2.out.trans g3); have R3 := Lh r3; have HU := Lh (And.intro t1 t2); clear g3 r3 t1 t2 C2))
   all_goals (go_end0; exact ⟨rfl, U, G3.out, R3.out, mrg_end (by have := HX.out; omega) (by have := HX.out; omega) HSp.out HF3.out HT0.out (Prm.refl _ _ _) HU.out.1 HU.out.2⟩)
  ·as_aux_lemma =>
   have i1 : ¬ (st : Int) < (m : Int) := by omega
   have i3 : (a : Int) < (st : Int) := by omega
   have i4 : ¬ (st : Int) < (mid : Int) := by omega
   have i5 : ¬ (mid : Int) < (en : Int) := by omega
   have HT0 := Lh (HF1.out.one (by omega))
   have HU0 := Lh (HF2.out.one (by omega))
   obtain rfl : R = S := by rw [← HSe.out]; exact (rot_id R (by omega)).symm
   have G1 := HG0
   have R1 := HRw
   clear kr ka kb HLo HHi
   have G2 := G1
   go_wp2_with fail
   all_goals (go_end0; exact ⟨rfl, R, G2.out, R1.out, mrg_end (by have := HX.out; omega) (by have := HX.out; omega) HSp.out HF3.out HT0.out (Prm.refl _ _ _) HU0.out (Prm.refl _ _ _)⟩)
  ·as_aux_lemma =>
   have i1 : ¬ (st : Int) < (m : Int) := by omega
   have i3 : (a : Int) < (st : Int) := by omega
   have i4 : ¬ (st : Int) < (mid : Int) := by omega
   have i5 : (mid : Int) < (en : Int) := by omega
   have i6 : ¬ (en : Int) < (e : Int) := by omega
   have HT0 := Lh (HF1.out.one (by omega))
   have HU0 := Lh (HF2.out.one (by omega))
   obtain rfl : R = S := by rw [← HSe.out]; exact (rot_id R (by omega)).symm
   have G1 := HG0
   have R1 := HRw
   clear kr ka kb HLo HHi
   have G2 := G1
   go_wp2_with fail
   all_goals (go_end0; exact ⟨rfl, R, G2.out, R1.out, mrg_end (by have := HX.out; omega) (by have := HX.out; omega) HSp.out HF3.out HT0.out (Prm.refl _ _ _) HU0.out (Prm.refl _ _ _)⟩)
  ·as_aux_lemma =>
   have i1 : (st : Int) < (m : Int) := by omega
   have i2 : ¬ (m : Int) < (en : Int) := by omega
   have i3 : (a : Int) < (st : Int) := by omega
   have i4 : (st : Int) < (mid : Int) := by omega
   have i5 : (mid : Int) < (en : Int) := by omega
   have i6 : (en : Int) < (e : Int) := by omega
   have HBr := Lh ka
   have HBs := Lh kb
   obtain rfl : R = S := by rw [← HSe.out]; exact (rot_id R (by omega)).symm
   have G1 := HG0
   have R1 := HRw
   clear kr ka kb HLo HHi
   have C1 := Lh (IH.out a st mid R wr (by have := HX.out; have := HBr.out; omega) (by have := HBr.out; omega) (by have := HBr.out; omega) (by have := HX.out; omega) HF1.out HSn.out R1.out (HC0.out.wr G1.out))
   go_wp2_with (first
    | (go_at_call 202; (with_reducible refine C1.out.mono ?_); rintro e w2 ⟨rfl, T, g2, r2, t1, t2⟩; have G2 := Lh (G1.out.trans g2); have R2 := Lh r2; have HT := Lh (And.intro t1 t2); have C2 := Lh (IH.out mid en e T w2 (by have := HX.out; have := HBs.out; omega) (by have := HBs.out; omega) (by have := HBs.out; omega) (by have := HX.out; omega) (HF2.out.keep t2 (by have := HX.out; omega)) (prm_lt t2 (by have := HX.out; omega) HSn.out) R2.out (HC0.out.wr G2.out)); clear g2 r2 t1 t2 C1)
    | (go_at_call 202; (with_reducible refine C2.out.mono ?_); rintro e w3 ⟨rfl, U, g3, r3, t1, t2⟩; have G3 := Lh (G2.out.trans g3); have R3 := Lh r3; have HU := Lh (And.intro t1 t2); clear g3 r3 t1 t2 C2))
   all_goals (go_end0; exact ⟨rfl, U, G3.out, R3.out, mrg_end (by have := HX.out; omega) (by have := HX.out; omega) HSp.out HF3.out HT.out.1 HT.out.2 HU.out.1 HU.out.2⟩)
  ·as_aux_lemma =>
   have i1 : (st : Int) < (m : Int) := by omega
   have i2 : ¬ (m : Int) < (en : Int) := by omega
   have i3 : (a : Int) < (st : Int) := by omega
   have i4 : (st : Int) < (mid : Int) := by omega
   have i5 : ¬ (mid : Int) < (en : Int) := by omega
   have HBr := Lh ka
   have HU0 := Lh (HF2.out.one (by omega))
   obtain rfl : R = S := by rw [← HSe.out]; exact (rot_id R (by omega)).symm
   have G1 := HG0
   have R1 := HRw
   clear kr ka kb HLo HHi
   have C1 := Lh (IH.out a st mid R wr (by have := HX.out; have := HBr.out; omega) (by have := HBr.out; omega) (by have := HBr.out; omega) (by have := HX.out; omega) HF1.out HSn.out R1.out (HC0.out.wr G1.out))
   go_wp2_with (first
    | (go_at_call 202; (with_reducible refine C1.out.mono ?_); rintro e w2 ⟨rfl, T, g2, r2, t1, t2⟩; have G2 := Lh (G1.out.trans g2); have R2 := Lh r2; have HT := Lh (And.intro t1 t2); clear g2 r2 t1 t2 C1))
   all_goals (go_end0; exact ⟨rfl, T, G2.out, R2.out, mrg_end (by have := HX.out; omega) (by have := HX.out; omega) HSp.out HF3.out HT.out.1 HT.out.2 (HU0.out.congr fun q k1 _ => HT.out.2.out q (.inr k1)) (Prm.refl _ _ _)⟩)
  ·as_aux_lemma =>
   have i1 : (st : Int) < (m : Int) := by omega
   have i2 : ¬ (m : Int) < (en : Int) := by omega
   have i3 : (a : Int) < (st : Int) := by omega
   have i4 : (st : Int) < (mid : Int) := by omega
   have i5 : (mid : Int) < (en : Int) := by omega
   have i6 : ¬ (en : Int) < (e : Int) := by omega
   have HBr := Lh ka
   have HU0 := Lh (HF2.out.one (by omega))
   obtain rfl : R = S := by rw [← HSe.out]; exact (rot_id R (by omega)).symm
   have G1 := HG0
   have R1 := HRw
   clear kr ka kb HLo HHi
   have C1 := Lh (IH.out a st mid R wr (by have := HX.out; have := HBr.out; omega) (by have := HBr.out; omega) (by have := HBr.out; omega) (by have := HX.out; omega) HF1.out HSn.out R1.out (HC0.out.wr G1.out))
   go_wp2_with (first
    | (go_at_call 202; (with_reducible refine C1.out.mono ?_); rintro e w2 ⟨rfl, T, g2, r2, t1, t2⟩; have G2 := Lh (G1.out.trans g2); have R2 := Lh r2; have HT := Lh (And.intro t1 t2); clear g2 r2 t1 t2 C1))
   all_goals (go_end0; exact ⟨rfl, T, G2.out, R2.out, mrg_end (by have := HX.out; omega) (by have := HX.out; omega) HSp.out HF3.out HT.out.1 HT.out.2 (HU0.out.congr fun q k1 _ => HT.out.2.out q (.inr k1)) (Prm.refl _ _ _)⟩)
  ·as_aux_lemma =>
   have i1 : (st : Int) < (m : Int) := by omega
   have i2 : ¬ (m : Int) < (en : Int) := by omega
   have i3 : ¬ (a : Int) < (st : Int) := by omega
   have i5 : (mid : Int) < (en : Int) := by omega
   have i6 : (en : Int) < (e : Int) := by omega
   have HBs := Lh kb
   have HT0 := Lh (HF1.out.one (by omega))
   obtain rfl : R = S := by rw [← HSe.out]; exact (rot_id R (by omega)).symm
   have G1 := HG0
   have R1 := HRw
   clear kr ka kb HLo HHi
   have G2 := G1
   have C2 := Lh (IH.out mid en e R wr (by have := HX.out; have := HBs.out; omega) (by have := HBs.out; omega) (by have := HBs.out; omega) (by have := HX.out; omega) HF2.out HSn.out R1.out (HC0.out.wr G1.out))
   go_wp2_with (first
    | (go_at_call 202; (with_reducible refine C2.out.mono ?_); rintro e w3 ⟨rfl, U, g3, r3, t1, t2⟩; have G3 := Lh (G2.out.trans g3); have R3 := Lh r3; have HU := Lh (And.intro t1 t2); clear g3 r3 t1 t2 C2))
   all_goals (go_end0; exact ⟨rfl, U, G3.out, R3.out, mrg_end (by have := HX.out; omega) (by have := HX.out; omega) HSp.out HF3.out HT0.out (Prm.refl _ _ _) HU.out.1 HU.out.2⟩)
  ·as_aux_lemma =>
   have i1 : (st : Int) < (m : Int) := by omega
   have i2 : ¬ (m : Int) < (en : Int) := by omega
   have i3 : ¬ (a : Int) < (st : Int) := by omega
   have i5 : ¬ (mid : Int) < (en : Int) := by omega
   have HT0 := Lh (HF1.out.one (by omega))
   have HU0 := Lh (HF2.out.one (by omega))
   obtain rfl : R = S := by rw [← HSe.out]; exact (rot_id R (by omega)).symm
   have G1 := HG0
   have R1 := HRw
   clear kr ka kb HLo HHi
   have G2 := G1
   go_wp2_with fail
   all_goals (go_end0; exact ⟨rfl, R, G2.out, R1.out, mrg_end (by have := HX.out; omega) (by have := HX.out; omega) HSp.out HF3.out HT0.out (Prm.refl _ _ _) HU0.out (Prm.refl _ _ _)⟩)
  ·as_aux_lemma =>
   have i1 : (st : Int) < (m : Int) := by omega
   have i2 : ¬ (m : Int) < (en : Int) := by omega
   have i3 : ¬ (a : Int) < (st : Int) := by omega
   have i5 : (mid : Int) < (en : Int) := by omega
   have i6 : ¬ (en : Int) < (e : Int) := by omega
   have HT0 := Lh (HF1.out.one (by omega))
   have HU0 := Lh (HF2.out.one (by omega))
   obtain rfl : R = S := by rw [← HSe.out]; exact (rot_id R (by omega)).symm
   have G1 := HG0
   have R1 := HRw
   clear kr ka kb HLo HHi
   have G2 := G1
   go_wp2_with fail
   all_goals (go_end0; exact ⟨rfl, R, G2.out, R1.out, mrg_end (by have := HX.out; omega) (by have := HX.out; omega) HSp.out HF3.out HT0.out (Prm.refl _ _ _) HU0.out (Prm.refl _ _ _)⟩)
  ·as_aux_lemma =>
   have i1 : (st : Int) < (m : Int) := by omega
   have i2 : ¬ (m : Int) < (en : Int) := by omega
   have i3 : (a : Int) < (st : Int) := by omega
   have i4 : ¬ (st : Int) < (mid : Int) := by omega
   have i5 : (mid : Int) < (en : Int) := by omega
   have i6 : (en : Int) < (e : Int) := by omega
   have HBs := Lh kb
   have HT0 := Lh (HF1.out.one (by omega))
   obtain rfl : R = S := by rw [← HSe.out]; exact (rot_id R (by omega)).symm
   have G1 := HG0
   have R1 := HRw
   clear kr ka kb HLo HHi
   have G2 := G1
   have C2 := Lh (IH.out mid en e R wr (by have := HX.out; have := HBs.out; omega) (by have := HBs.out; omega) (by have := HBs.out; omega) (by have := HX.out; omega) HF2.out HSn.out R1.out (HC0.out.wr G1.out))
   go_wp2_with (first
    | (go_at_call 202; (with_reducible refine C2.out.mono ?_); rintro e w3 ⟨rfl, U, g3, r3, t1, t2⟩; have G3 := Lh (G2.out.trans g3); have R3 := Lh r3; have HU := Lh (And.intro t1 t2); clear g3 r3 t1 t2 C2))
   all_goals (go_end0; exact ⟨rfl, U, G3.out, R3.out, mrg_end (by have := HX.out; omega) (by have := HX.out; omega) HSp.out HF3.out HT0.out (Prm.refl _ _ _) HU.out.1 HU.out.2⟩)
  ·as_aux_lemma =>
   have i1 : (st : Int) < (m : Int) := by omega
   have i2 : ¬ (m : Int) < (en : Int) := by omega
   have i3 : (a : Int) < (st : Int) := by omega
   have i4 : ¬ (st : Int) < (mid : Int) := by omega
   have i5 : ¬ (mid : Int) < (en : Int) := by omega
   have HT0 := Lh (HF1.out.one (by omega))
   have HU0 := Lh (HF2.out.one (by omega))
   obtain rfl : R = S := by rw [← HSe.out]; exact (rot_id R (by omega)).symm
   have G1 := HG0
   have R1 := HRw
   clear kr ka kb HLo HHi
   have G2 := G1
   go_wp2_with fail
   all_goals (go_end0; exact ⟨rfl, R, G2.out, R1.out, mrg_end (by have := HX.out; omega) (by have := HX.out; omega) HSp.out HF3.out HT0.out (Prm.refl _ _ _) HU0.out (Prm.refl _ _ _)⟩)
  as_aux_lemma =>
  have i1 : (st : Int) < (m : Int) := by omega
  have i2 : ¬ (m : Int) < (en : Int) := by omega
  have i3 : (a : Int) < (st : Int) := by omega
  have i4 : ¬ (st : Int) < (mid : Int) := by omega
  have i5 : (mid : Int) < (en : Int) := by omega
  have i6 : ¬ (en : Int) < (e : Int) := by omega
  have HT0 := Lh (HF1.out.one (by omega))
  have HU0 := Lh (HF2.out.one (by omega))
  obtain rfl : R = S := by rw [← HSe.out]; exact (rot_id R (by omega)).symm
  have G1 := HG0
  have R1 := HRw
  clear kr ka kb HLo HHi
  have G2 := G1
  go_wp2_with fail
  all_goals (go_end0; exact ⟨rfl, R, G2.out, R1.out, mrg_end (by have := HX.out; omega) (by have := HX.out; omega) HSp.out HF3.out HT0.out (Prm.refl _ _ _) HU0.out (Prm.refl _ _ _)⟩)
theorem symM2_any (b cap n a m e : Nat) (R : Nat → Nat) (c : Nat → Rw) (K : Nat → List Int) (w : World) (hn : n ≤ 1000) (hma : m ≠ a + 1) (hem : e ≠ m + 1) (ham : a < m) (hme : m < e) (he : e ≤ n) (hcase : m ≤ (a + e) / 2) (hT : Two K R a m e) (hR : ∀ p, p < n → R p < n) (hw : Row2 w b n R c) (hC : CmpOk w b n c K) (ih : SymH b cap n c K (e - a)) :
  Calls Tryz.prog 202 #[.slice (some ⟨b, 0, none⟩) n cap, .int .i64 a, .int .i64 m, .int .i64 e, .func (.func 133) #[] #[]] w (RetSr b n c (fun R' => Srt' K R' a e ∧ Prm a e R R') w) := by
 have HW := Lh hw
 have HC0 := Lh hC
 have IH := Lh ih
 have HT2 := Lh hT
 have HRn := Lh hR
 have hcf := cfC
 obtain ⟨ma, hma'⟩ : ∃ ma, ma = m - a := ⟨_, rfl⟩
 obtain ⟨em, hem'⟩ : ∃ em, em = e - m := ⟨_, rfl⟩
 obtain ⟨mid, hmid⟩ : ∃ mid, mid = (a + e) / 2 := ⟨_, rfl⟩
 obtain ⟨nn, hnn⟩ : ∃ nn, nn = mid + m := ⟨_, rfl⟩
 obtain ⟨pp, hpp⟩ : ∃ pp, pp = mid + m - 1 := ⟨_, rfl⟩
 obtain ⟨s0, hs0⟩ : ∃ s0, s0 = a := ⟨_, rfl⟩
 obtain ⟨r0, hr0⟩ : ∃ r0, r0 = m := ⟨_, rfl⟩
 rw [← hmid] at hcase
 have HX := Lh (show n ≤ 1000 ∧ a + 1 < m ∧ m + 1 < e ∧ e ≤ n ∧ a < mid ∧ mid < e ∧ nn = mid + m ∧ pp = mid + m - 1 ∧ a ≤ s0 ∧ s0 ≤ r0 ∧ r0 ≤ m ∧ r0 ≤ mid ∧ mid + m ≤ s0 + e from by omega)
 have HD := Lh (show (mid < m ∧ s0 = mid + m - e ∧ r0 = mid ∧ a ≤ s0) ∨ (m ≤ mid ∧ s0 = a ∧ r0 = m ∧ mid + m - a ≤ e) from by omega)
 have e0 : IntKind.i64.wrap ((m : Int) - (a : Int)) = (ma : Int) := by rw [IntWalk.i64_in _ (by omega)]; omega
 have e0' : ((ma : Int) == 1) = false := by rw [beq_eq_false_iff_ne]; omega
 have e1 : IntKind.i64.wrap ((e : Int) - (m : Int)) = (em : Int) := by rw [IntWalk.i64_in _ (by omega)]; omega
 have e1' : ((em : Int) == 1) = false := by rw [beq_eq_false_iff_ne]; omega
 obtain ⟨t1, t2, t3, t4⟩ := half_wrap (i := a) (j := e) (by omega)
 rw [← hmid] at t3 t4
 have e2 : IntKind.i64.wrap ((mid : Int) + (m : Int)) = (nn : Int) := by rw [IntWalk.i64_in _ (by omega)]; omega
 have e3 : IntKind.i64.wrap ((nn : Int) - 1) = (pp : Int) := by rw [IntWalk.i64_in _ (by omega)]; omega
 have c1 : ¬ (mid : Int) < (m : Int) := by omega
 clear hw hn hma hem ham hme he hT hR hC ih hcase hma' hem' hmid hnn hpp hs0 hr0
 go_enter Tryz.func202, Tryz.ntmps202
 go_wp2_with fail
 go_loopw [20, 21] (fun s t wr => ∃ (i j : Nat), s = .int .i64 i ∧ t = .int .i64 j ∧ Hid (s0 ≤ i ∧ i ≤ j ∧ j ≤ r0) ∧ Hid (Gr w wr) ∧ Hid (s0 < i → ¬ K (R (mid + m - i)) < K (R (i - 1))) ∧ Hid (j < r0 → K (R (mid + m - 1 - j)) < K (R j))) (fun s t _ => (intOf t).toNat - (intOf s).toNat)
 case atStart => exact ⟨s0, r0, by rw [show s0 = a by have := HD.out; omega], by rw [show r0 = m by have := HD.out; omega], Lh (by have := HX.out; omega), Lh (Gr.refl w), Lh (fun h => by omega), Lh (fun h => by omega)⟩
 case round =>
  clear e0 e0' e1 e1' t1 t2 t3 t4 e2 e3 c1
  obtain ⟨i, j, rfl, rfl, Hij, HG, HLo, HHi⟩ := hrel
  by_cases hlt : i < j
  ·have i1 : (i : Int) < (j : Int) := by omega
   have hb := HX.out
   have hi := Hij.out
   obtain ⟨h, hh⟩ : ∃ h, h = (i + j) / 2 := ⟨_, rfl⟩
   obtain ⟨z, hz⟩ : ∃ z, z = mid + m - 1 - h := ⟨_, rfl⟩
   have HH := Lh (show i ≤ h ∧ h < j ∧ z = mid + m - 1 - h ∧ mid + m - (h + 1) = z from by omega)
   have q1 : (h : Int) < (n : Int) := by omega
   have q2 : (z : Int) < (n : Int) := by omega
   have HRw := Lh (HW.out.gr HG.out)
   obtain ⟨a1, a2, _, _⟩ := HRw.out z (by omega)
   obtain ⟨b1, b2, _, _⟩ := HRw.out h (by omega)
   have HC := Lh (fun w' (g : Gr wr w') => HC0.out w' (Wr.of_gr (HG.out.trans g)) (R z) (R h) (HRn.out _ (by omega)) (HRn.out _ (by omega)))
   have HE := Lh (cmpI_neg (x := K (R z)) (y := K (R h)))
   have HYes := Lh (show K (R z) < K (R h) → h < r0 → K (R (mid + m - 1 - h)) < K (R h) from fun hl _ => by rw [← hz]; exact hl)
   have HNo := Lh (show ¬ K (R z) < K (R h) → s0 < h + 1 → ¬ K (R (mid + m - (h + 1))) < K (R (h + 1 - 1)) from fun hl _ => by rw [show mid + m - (h + 1) = z by omega, Nat.add_sub_cancel]; exact hl)
   obtain ⟨s1, s2, s3, s4⟩ := half_wrap (i := i) (j := j) (by omega)
   rw [← hh] at s3 s4
   have s5 : IntKind.i64.wrap ((pp : Int) - (h : Int)) = (z : Int) := by rw [IntWalk.i64_in _ (by omega)]; omega
   clear hh hb hi hlt hz
   generalize c (R z) = x at *
   generalize c (R h) = y at *
   generalize K (R z) = kx at *
   generalize hky : K (R h) = ky at *
   have HKy := Lh hky
   clear hky
   obtain ⟨xa, xn, xc, xy⟩ := x
   obtain ⟨ya, yn, yc, yy⟩ := y
   simp only at a1 a2 b1 b2 HC
   go_wp2_with fail
   refine Hg (fun w' => Gr wr w') 14 ?_
   have hS : Gr wr wr.drew := (Gr.refl wr).drew
   refine H5 0 1 2 3 4 (c4 a1 a2 b1 b2) hS ?_; refine H5 5 6 7 8 9 (c4 a1 a2 b1 b2) hS ?_; refine H1 10 (c4 a1 a2 b1 b2) hS ?_
   refine Hr 11 rfl (fun K hK => ?_)
   go_simp
   refine ⟨trivial, ?_⟩
   refine (callsIn_wide.2 (HC.out _ hS)).mono ?_
   rintro e wX ⟨rfl, gX⟩
   have hS : Gr wr wX := hS.trans gX
   refine hK.out _ _ hS ?_
   clear hK K gX
   refine H2 12 13 tv hS ?_
   refine Hd ?_
   clear HC a1 a2 b1 b2 s1 s2 s3 s4 s5
   have HG2 := Lh (HG.out.trans hS)
   clear hS
   have hb := HX.out
   have hi := Hij.out
   have hh := HH.out
   generalize hz : decide (cmpI kx ky < 0) = z at *
   cases z with
   | true =>
    have hl : kx < ky := HE.out.1 (of_decide_eq_true hz)
    have HHi2 := Lh (HYes.out hl)
    clear HYes HNo HE hl hz
    go_wp2_with fail
    go_roundw
    case rel => exact ⟨i, h, rfl, rfl, Lh (by omega), HG2, HLo, Lh (by rw [HKy.out]; exact HHi2.out)⟩
    case measure => simp only [intOf]; omega
   | false =>
    have hl : ¬ kx < ky := fun h => of_decide_eq_false hz (HE.out.2 h)
    have HLo2 := Lh (HNo.out hl)
    clear HYes HNo HE hl hz
    have e3 : wrap64 ((h : Int) + 1) = ((h + 1 : Nat) : Int) := by rw [IntWalk.wrap64_in _ (by omega)]; omega
    have o1 : s0 ≤ h + 1 ∧ h + 1 ≤ j ∧ j ≤ r0 := by clear e3; omega
    have o2 : i < h + 1 := by clear e3; omega
    clear hb hi hh
    go_wp2_with fail
    go_roundw
    case rel => exact ⟨h + 1, j, by first | (rw [e3]) | rfl | simp, rfl, Lh o1, HG2, HLo2, HHi⟩
    case measure => first | (rw [e3]; clear e3; simp only [intOf]; omega) | (clear e3; simp only [intOf]; omega)
  have hb := HX.out
  have hi := Hij.out
  obtain rfl : i = j := by omega
  have j1 : ¬ (i : Int) < (i : Int) := by omega
  have HCut := Lh (cut_found (K := K) (R := R) (a := a) (m := m) (e := e) (mid := mid) (st := i) (s0 := s0) (r0 := r0) (by omega) (by omega) HT2.out.2.2 HD.out (by omega) HLo.out HHi.out)
  obtain ⟨F1, F2, F3⟩ := cut_parts (by omega) (by omega) HCut.out HT2.out.1 HT2.out.2.1 HT2.out.2.2
  obtain ⟨st, hst⟩ : ∃ st, st = i := ⟨_, rfl⟩
  subst hst
  obtain ⟨en, hen⟩ : ∃ en, mid + m - st = en := ⟨_, rfl⟩
  rw [hen] at F1 F2 F3
  obtain ⟨S, hS⟩ : ∃ S, rot R st m en = S := ⟨_, rfl⟩
  have HSe := Lh hS
  have HSp := Lh (show Prm a e R S by
   rw [← hS]
   rcases Nat.lt_or_ge en m with h | h
   ·omega
   exact (Prm.rot R (by omega) h).wide (by omega) (by omega))
  rw [hS] at F1 F2 F3
  have HF1 := Lh (show Two K S a st mid from F1)
  have HF2 := Lh (show Two K S mid en e from F2)
  have HF3 := Lh F3
  have HSn := Lh (prm_lt HSp.out (show e ≤ n by omega) HRn.out)
  replace HX := Lh (show n ≤ 1000 ∧ a < mid ∧ mid < e ∧ e ≤ n ∧ a ≤ st ∧ st ≤ mid ∧ mid ≤ en ∧ en ≤ e ∧ st ≤ m ∧ m ≤ en from by omega)
  have HRw := Lh (HW.out.gr HG.out)
  have HG0 := Lh (show Wr b w wr from Wr.of_gr HG.out)
  have x1 : (st = m ∨ st < m) ∧ (en = m ∨ m < en) ∧ (a = st ∨ a < st) ∧ (st = mid ∨ st < mid) ∧ (mid = en ∨ mid < en) ∧ (en = e ∨ en < e) := by omega
  have e5 : IntKind.i64.wrap ((nn : Int) - (st : Int)) = (en : Int) := by rw [IntWalk.i64_in _ (by omega)]; omega
  clear hb hi hen hS F1 F2 F3 HCut HW HT2 HRn HG
  rcases (show (st < m ∧ m < en) ∨ (¬ st < m) ∨ (st < m ∧ ¬ m < en) by omega) with kr | kr | kr <;> rcases (show (a < st ∧ st < mid) ∨ (¬ a < st) ∨ (a < st ∧ ¬ st < mid) by omega) with ka | ka | ka <;> rcases (show (mid < en ∧ en < e) ∨ (¬ mid < en) ∨ (mid < en ∧ ¬ en < e) by omega) with kb | kb | kb
  ·as_aux_lemma =>
   have i1 : (st : Int) < (m : Int) := by omega
   have i2 : (m : Int) < (en : Int) := by omega
   have i3 : (a : Int) < (st : Int) := by omega
   have i4 : (st : Int) < (mid : Int) := by omega
   have i5 : (mid : Int) < (en : Int) := by omega
   have i6 : (en : Int) < (e : Int) := by omega
   have HBr := Lh ka
   have HBs := Lh kb
   have CR := Lh (rotate_any b cap n st m en R c wr (.func (.func 133) #[] #[]) (by have := HX.out; omega) (by omega) (by omega) (by have := HX.out; omega) HRw.out)
   rw [HSe.out] at CR
   clear kr ka kb HLo HHi
   go_wp2_with (first
    | (go_at_call 235; (with_reducible refine CR.out.mono ?_); rintro e w1 ⟨rfl, g1, r1⟩; have G1 := Lh (HG0.out.trans g1); have R1 := Lh r1; have C1 := Lh (IH.out a st mid S w1 (by have := HX.out; have := HBr.out; omega) (by have := HBr.out; omega) (by have := HBr.out; omega) (by have := HX.out; omega) HF1.out HSn.out R1.out (HC0.out.wr G1.out)); clear g1 r1 CR)
    | (go_at_call 202; (with_reducible refine C1.out.mono ?_); rintro e w2 ⟨rfl, T, g2, r2, t1, t2⟩; have G2 := Lh (G1.out.trans g2); have R2 := Lh r2; have HT := Lh (And.intro t1 t2); have C2 := Lh (IH.out mid en e T w2 (by have := HX.out; have := HBs.out; omega) (by have := HBs.out; omega) (by have := HBs.out; omega) (by have := HX.out; omega) (HF2.out.keep t2 (by have := HX.out; omega)) (prm_lt t2 (by have := HX.out; omega) HSn.out) R2.out (HC0.out.wr G2.out)); clear g2 r2 t1 t2 C1)
    | (go_at_call 202; (with_reducible refine C2.out.mono ?_); rintro e w3 ⟨rfl, U, g3, r3, t1, t2⟩; have G3 := Lh (G2.out.trans g3); have R3 := Lh r3; have HU := Lh (And.intro t1 t2); clear g3 r3 t1 t2 C2))
   all_goals (go_end0; exact ⟨rfl, U, G3.out, R3.out, mrg_end (by have := HX.out; omega) (by have := HX.out; omega) HSp.out HF3.out HT.out.1 HT.out.2 HU.out.1 HU.out.2⟩)
  ·as_aux_lemma =>
   have i1 : (st : Int) < (m : Int) := by omega
   have i2 : (m : Int) < (en : Int) := by omega
   have i3 : (a : Int) < (st : Int) := by omega
   have i4 : (st : Int) < (mid : Int) := by omega
   have i5 : ¬ (mid : Int) < (en : Int) := by omega
   have HBr := Lh ka
   have HU0 := Lh (HF2.out.one (by omega))
   have CR := Lh (rotate_any b cap n st m en R c wr (.func (.func 133) #[] #[]) (by have := HX.out; omega) (by omega) (by omega) (by have := HX.out; omega) HRw.out)
   rw [HSe.out] at CR
   clear kr ka kb HLo HHi
   go_wp2_with (first
    | (go_at_call 235; (with_reducible refine CR.out.mono ?_); rintro e w1 ⟨rfl, g1, r1⟩; have G1 := Lh (HG0.out.trans g1); have R1 := Lh r1; have C1 := Lh (IH.out a st mid S w1 (by have := HX.out; have := HBr.out; omega) (by have := HBr.out; omega) (by have := HBr.out; omega) (by have := HX.out; omega) HF1.out HSn.out R1.out (HC0.out.wr G1.out)); clear g1 r1 CR)
    | (go_at_call 202; (with_reducible refine C1.out.mono ?_); rintro e w2 ⟨rfl, T, g2, r2, t1, t2⟩; have G2 := Lh (G1.out.trans g2); have R2 := Lh r2; have HT := Lh (And.intro t1 t2); clear g2 r2 t1 t2 C1))
   all_goals (go_end0; exact ⟨rfl, T, G2.out, R2.out, mrg_end (by have := HX.out; omega) (by have := HX.out; omega) HSp.out HF3.out HT.out.1 HT.out.2 (HU0.out.congr fun q k1 _ => HT.out.2.out q (.inr k1)) (Prm.refl _ _ _)⟩)
  ·as_aux_lemma =>
   have i1 : (st : Int) < (m : Int) := by omega
   have i2 : (m : Int) < (en : Int) := by omega
   have i3 : (a : Int) < (st : Int) := by omega
   have i4 : (st : Int) < (mid : Int) := by omega
   have i5 : (mid : Int) < (en : Int) := by omega
   have i6 : ¬ (en : Int) < (e : Int) := by omega
   have HBr := Lh ka
   have HU0 := Lh (HF2.out.one (by omega))
   have CR := Lh (rotate_any b cap n st m en R c wr (.func (.func 133) #[] #[]) (by have := HX.out; omega) (by omega) (by omega) (by have := HX.out; omega) HRw.out)
   rw [HSe.out] at CR
   clear kr ka kb HLo HHi
   go_wp2_with (first
    | (go_at_call 235; (with_reducible refine CR.out.mono ?_); rintro e w1 ⟨rfl, g1, r1⟩; have G1 := Lh (HG0.out.trans g1); have R1 := Lh r1; have C1 := Lh (IH.out a st mid S w1 (by have := HX.out; have := HBr.out; omega) (by have := HBr.out; omega) (by have := HBr.out; omega) (by have := HX.out; omega) HF1.out HSn.out R1.out (HC0.out.wr G1.out)); clear g1 r1 CR)
    | (go_at_call 202; (with_reducible refine C1.out.mono ?_); rintro e w2 ⟨rfl, T, g2, r2, t1, t2⟩; have G2 := Lh (G1.out.trans g2); have R2 := Lh r2; have HT := Lh (And.intro t1 t2); clear g2 r2 t1 t2 C1))
   all_goals (go_end0; exact ⟨rfl, T, G2.out, R2.out, mrg_end (by have := HX.out; omega) (by have := HX.out; omega) HSp.out HF3.out HT.out.1 HT.out.2 (HU0.out.congr fun q k1 _ => HT.out.2.out q (.inr k1)) (Prm.refl _ _ _)⟩)
  ·as_aux_lemma =>
   have i1 : (st : Int) < (m : Int) := by omega
   have i2 : (m : Int) < (en : Int) := by omega
   have i3 : ¬ (a : Int) < (st : Int) := by omega
   have i5 : (mid : Int) < (en : Int) := by omega
   have i6 : (en : Int) < (e : Int) := by omega
   have HBs := Lh kb
   have HT0 := Lh (HF1.out.one (by omega))
   have CR := Lh (rotate_any b cap n st m en R c wr (.func (.func 133) #[] #[]) (by have := HX.out; omega) (by omega) (by omega) (by have := HX.out; omega) HRw.out)
   rw [HSe.out] at CR
   clear kr ka kb HLo HHi
   go_wp2_with (first
    | (go_at_call 235; (with_reducible refine CR.out.mono ?_); rintro e w1 ⟨rfl, g1, r1⟩; have G1 := Lh (HG0.out.trans g1); have R1 := Lh r1; have G2 := G1; have C2 := Lh (IH.out mid en e S w1 (by have := HX.out; have := HBs.out; omega) (by have := HBs.out; omega) (by have := HBs.out; omega) (by have := HX.out; omega) HF2.out HSn.out R1.out (HC0.out.wr G1.out)); clear g1 r1 CR)
    | (go_at_call 202; (with_reducible refine C2.out.mono ?_); rintro e w3 ⟨rfl, U, g3, r3, t1, t2⟩; have G3 := Lh (G2.out.trans g3); have R3 := Lh r3; have HU := Lh (And.intro t1 t2); clear g3 r3 t1 t2 C2))
   all_goals (go_end0; exact ⟨rfl, U, G3.out, R3.out, mrg_end (by have := HX.out; omega) (by have := HX.out; omega) HSp.out HF3.out HT0.out (Prm.refl _ _ _) HU.out.1 HU.out.2⟩)
  ·as_aux_lemma =>
   have i1 : (st : Int) < (m : Int) := by omega
   have i2 : (m : Int) < (en : Int) := by omega
   have i3 : ¬ (a : Int) < (st : Int) := by omega
   have i5 : ¬ (mid : Int) < (en : Int) := by omega
   have HT0 := Lh (HF1.out.one (by omega))
   have HU0 := Lh (HF2.out.one (by omega))
   have CR := Lh (rotate_any b cap n st m en R c wr (.func (.func 133) #[] #[]) (by have := HX.out; omega) (by omega) (by omega) (by have := HX.out; omega) HRw.out)
   rw [HSe.out] at CR
   clear kr ka kb HLo HHi
   go_wp2_with (first
    | (go_at_call 235; (with_reducible refine CR.out.mono ?_); rintro e w1 ⟨rfl, g1, r1⟩; have G1 := Lh (HG0.out.trans g1); have R1 := Lh r1; have G2 := G1; clear g1 r1 CR))
   all_goals (go_end0; exact ⟨rfl, S, G2.out, R1.out, mrg_end (by have := HX.out; omega) (by have := HX.out; omega) HSp.out HF3.out HT0.out (Prm.refl _ _ _) HU0.out (Prm.refl _ _ _)⟩)
  ·as_aux_lemma =>
   have i1 : (st : Int) < (m : Int) := by omega
   have i2 : (m : Int) < (en : Int) := by omega
   have i3 : ¬ (a : Int) < (st : Int) := by omega
   have i5 : (mid : Int) < (en : Int) := by omega
   have i6 : ¬ (en : Int) < (e : Int) := by omega
   have HT0 := Lh (HF1.out.one (by omega))
   have HU0 := Lh (HF2.out.one (by omega))
   have CR := Lh (rotate_any b cap n st m en R c wr (.func (.func 133) #[] #[]) (by have := HX.out; omega) (by omega) (by omega) (by have := HX.out; omega) HRw.out)
   rw [HSe.out] at CR
   clear kr ka kb HLo HHi
   go_wp2_with (first
    | (go_at_call 235; (with_reducible refine CR.out.mono ?_); rintro e w1 ⟨rfl, g1, r1⟩; have G1 := Lh (HG0.out.trans g1); have R1 := Lh r1; have G2 := G1; clear g1 r1 CR))
   all_goals (go_end0; exact ⟨rfl, S, G2.out, R1.out, mrg_end (by have := HX.out; omega) (by have := HX.out; omega) HSp.out HF3.out HT0.out (Prm.refl _ _ _) HU0.out (Prm.refl _ _ _)⟩)
  ·as_aux_lemma =>
   have i1 : (st : Int) < (m : Int) := by omega
   have i2 : (m : Int) < (en : Int) := by omega
   have i3 : (a : Int) < (st : Int) := by omega
   have i4 : ¬ (st : Int) < (mid : Int) := by omega
   have i5 : (mid : Int) < (en : Int) := by omega
   have i6 : (en : Int) < (e : Int) := by omega
   have HBs := Lh kb
   have HT0 := Lh (HF1.out.one (by omega))
   have CR := Lh (rotate_any b cap n st m en R c wr (.func (.func 133) #[] #[]) (by have := HX.out; omega) (by omega) (by omega) (by have := HX.out; omega) HRw.out)
   rw [HSe.out] at CR
   clear kr ka kb HLo HHi
   go_wp2_with (first
    | (go_at_call 235; (with_reducible refine CR.out.mono ?_); rintro e w1 ⟨rfl, g1, r1⟩; have G1 := Lh (HG0.out.trans g1); have R1 := Lh r1; have G2 := G1; have C2 := Lh (IH.out mid en e S w1 (by have := HX.out; have := HBs.out; omega) (by have := HBs.out; omega) (by have := HBs.out; omega) (by have := HX.out; omega) HF2.out HSn.out R1.out (HC0.out.wr G1.out)); clear g1 r1 CR)
    | (go_at_call 202; (with_reducible refine C2.out.mono ?_); rintro e w3 ⟨rfl, U, g3, r3, t1, t2⟩; have G3 := Lh (G2.out.trans g3); have R3 := Lh r3; have HU := Lh (And.intro t1 t2); clear g3 r3 t1 t2 C2))
   all_goals (go_end0; exact ⟨rfl, U, G3.out, R3.out, mrg_end (by have := HX.out; omega) (by have := HX.out; omega) HSp.out HF3.out HT0.out (Prm.refl _ _ _) HU.out.1 HU.out.2⟩)
  ·as_aux_lemma =>
   have i1 : (st : Int) < (m : Int) := by omega
   have i2 : (m : Int) < (en : Int) := by omega
   have i3 : (a : Int) < (st : Int) := by omega
   have i4 : ¬ (st : Int) < (mid : Int) := by omega
   have i5 : ¬ (mid : Int) < (en : Int) := by omega
   have HT0 := Lh (HF1.out.one (by omega))
   have HU0 := Lh (HF2.out.one (by omega))
   have CR := Lh (rotate_any b cap n st m en R c wr (.func (.func 133) #[] #[]) (by have := HX.out; omega) (by omega) (by omega) (by have := HX.out; omega) HRw.out)
   rw [HSe.out] at CR
   clear kr ka kb HLo HHi
   go_wp2_with (first
    | (go_at_call 235; (with_reducible refine CR.out.mono ?_); rintro e w1 ⟨rfl, g1, r1⟩; have G1 := Lh (HG0.out.trans g1); have R1 := Lh r1; have G2 := G1; clear g1 r1 CR))
   all_goals (go_end0; exact ⟨rfl, S, G2.out, R1.out, mrg_end (by have := HX.out; omega) (by have := HX.out; omega) HSp.out HF3.out HT0.out (Prm.refl _ _ _) HU0.out (Prm.refl _ _ _)⟩)
  ·as_aux_lemma =>
   have i1 : (st : Int) < (m : Int) := by omega
   have i2 : (m : Int) < (en : Int) := by omega
   have i3 : (a : Int) < (st : Int) := by omega
   have i4 : ¬ (st : Int) < (mid : Int) := by omega
   have i5 : (mid : Int) < (en : Int) := by omega
   have i6 : ¬ (en : Int) < (e : Int) := by omega
   have HT0 := Lh (HF1.out.one (by omega))
   have HU0 := Lh (HF2.out.one (by omega))
   have CR := Lh (rotate_any b cap n st m en R c wr (.func (.func 133) #[] #[]) (by have := HX.out; omega) (by omega) (by omega) (by have := HX.out; omega) HRw.out)
   rw [HSe.out] at CR
   clear kr ka kb HLo HHi
   go_wp2_with (first
    | (go_at_call 235; (with_reducible refine CR.out.mono ?_); rintro e w1 ⟨rfl, g1, r1⟩; have G1 := Lh (HG0.out.trans g1); have R1 := Lh r1; have G2 := G1; clear g1 r1 CR))
   all_goals (go_end0; exact ⟨rfl, S, G2.out, R1.out, mrg_end (by have := HX.out; omega) (by have := HX.out; omega) HSp.out HF3.out HT0.out (Prm.refl _ _ _) HU0.out (Prm.refl _ _ _)⟩)
  ·as_aux_lemma =>
   have i1 : ¬ (st : Int) < (m : Int) := by omega
   have i3 : (a : Int) < (st : Int) := by omega
   have i4 : (st : Int) < (mid : Int) := by omega
   have i5 : (mid : Int) < (en : Int) := by omega
   have i6 : (en : Int) < (e : Int) := by omega
   have HBr := Lh ka
   have HBs := Lh kb
   obtain rfl : R = S := by rw [← HSe.out]; exact (rot_id R (by omega)).symm
   have G1 := HG0
   have R1 := HRw
   clear kr ka kb HLo HHi
   have C1 := Lh (IH.out a st mid R wr (by have := HX.out; have := HBr.out; omega) (by have := HBr.out; omega) (by have := HBr.out; omega) (by have := HX.out; omega) HF1.out HSn.out R1.out (HC0.out.wr G1.out))
   go_wp2_with (first
    | (go_at_call 202; (with_reducible refine C1.out.mono ?_); rintro e w2 ⟨rfl, T, g2, r2, t1, t2⟩; have G2 := Lh (G1.out.trans g2); have R2 := Lh r2; have HT := Lh (And.intro t1 t2); have C2 := Lh (IH.out mid en e T w2 (by have := HX.out; have := HBs.out; omega) (by have := HBs.out; omega) (by have := HBs.out; omega) (by have := HX.out; omega) (HF2.out.keep t2 (by have := HX.out; omega)) (prm_lt t2 (by have := HX.out; omega) HSn.out) R2.out (HC0.out.wr G2.out)); clear g2 r2 t1 t2 C1)
    | (go_at_call 202; (with_reducible refine C2.out.mono ?_); rintro e w3 ⟨rfl, U, g3, r3, t1, t2⟩; have G3 := Lh (G2.out.trans g3); have R3 := Lh r3; have HU := Lh (And.intro t1 t2); clear g3 r3 t1 t2 C2))
   all_goals (go_end0; exact ⟨rfl, U, G3.out, R3.out, mrg_end (by have := HX.out; omega) (by have := HX.out; omega) HSp.out HF3.out HT.out.1 HT.out.2 HU.out.1 HU.out.2⟩)
  ·as_aux_lemma =>
   have i1 : ¬ (st : Int) < (m : Int) := by omega
   have i3 : (a : Int) < (st : Int) := by omega
   have i4 : (st : Int) < (mid : Int) := by omega
   have i5 : ¬ (mid : Int) < (en : Int) := by omega
   have HBr := Lh ka
   have HU0 := Lh (HF2.out.one (by omega))
   obtain rfl : R = S := by rw [← HSe.out]; exact (rot_id R (by omega)).symm
   have G1 := HG0
   have R1 := HRw
   clear kr ka kb HLo HHi
   have C1 := Lh (IH.out a st mid R wr (by have := HX.out; have := HBr.out; omega) (by have := HBr.out; omega) (by have := HBr.out; omega) (by have := HX.out; omega) HF1.out HSn.out R1.out (HC0.out.wr G1.out))
   go_wp2_with (first
    | (go_at_call 202; (with_reducible refine C1.out.mono ?_); rintro e w2 ⟨rfl, T, g2, r2, t1, t2⟩; have G2 := Lh (G1.out.trans g2); have R2 := Lh r2; have HT := Lh (And.intro t1 t2); clear g2 r2 t1 t2 C1))
   all_goals (go_end0; exact ⟨rfl, T, G2.out, R2.out, mrg_end (by have := HX.out; omega) (by have := HX.out; omega) HSp.out HF3.out HT.out.1 HT.out.2 (HU0.out.congr fun q k1 _ => HT.out.2.out q (.inr k1)) (Prm.refl _ _ _)⟩)
  ·as_aux_lemma =>
   have i1 : ¬ (st : Int) < (m : Int) := by omega
   have i3 : (a : Int) < (st : Int) := by omega
   have i4 : (st : Int) < (mid : Int) := by omega
   have i5 : (mid : Int) < (en : Int) := by omega
   have i6 : ¬ (en : Int) < (e : Int) := by omega
   have HBr := Lh ka
   have HU0 := Lh (HF2.out.one (by omega))
   obtain rfl : R = S := by rw [← HSe.out]; exact (rot_id R (by omega)).symm
   have G1 := HG0
   have R1 := HRw
   clear kr ka kb HLo HHi
   have C1 := Lh (IH.out a st mid R wr (by have := HX.out; have := HBr.out; omega) (by have := HBr.out; omega) (by have := HBr.out; omega) (by have := HX.out; omega) HF1.out HSn.out R1.out (HC0.out.wr G1.out))
   go_wp2_with (first
    | (go_at_call 202; (with_reducible refine C1.out.mono ?_); rintro e w2 ⟨rfl, T, g2, r2, t1, t2⟩; have G2 := Lh (G1.out.trans g2); have R2 := Lh r2; have HT := Lh (And.intro t1 t2); clear g2 r2 t1 t2 C1))
   all_goals (go_end0; exact ⟨rfl, T, G2.out, R2.out, mrg_end (by have := HX.out; omega) (by have := HX.out; omega) HSp.out HF3.out HT.out.1 HT.out.2 (HU0.out.congr fun q k1 _ => HT.out.2.out q (.inr k1)) (Prm.refl _ _ _)⟩)
  ·as_aux_lemma =>
   have i1 : ¬ (st : Int) < (m : Int) := by omega
   have i3 : ¬ (a : Int) < (st : Int) := by omega
   have i5 : (mid : Int) < (en : Int) := by omega
   have i6 : (en : Int) < (e : Int) := by omega
   have HBs := Lh kb
   have HT0 := Lh (HF1.out.one (by omega))
   obtain rfl : R = S := by rw [← HSe.out]; exact (rot_id R (by omega)).symm
   have G1 := HG0
   have R1 := HRw
   clear kr ka kb HLo HHi
   have G2 := G1
   have C2 := Lh (IH.out mid en e R wr (by have := HX.out; have := HBs.out; omega) (by have := HBs.out; omega) (by have := HBs.out; omega) (by have := HX.out; omega) HF2.out HSn.out R1.out (HC0.out.wr G1.out))
   go_wp2_with (first
    | (go_at_call 202; (with_reducible refine C2.out.mono ?_); rintro e w3 ⟨rfl, U, g3, r3, t1, t2⟩; have G3 := Lh (G2.out.trans g3); have R3 := Lh r3; have HU := Lh (And.intro t1 t2); clear g3 r3 t1 t2 C2))
   all_goals (go_end0; exact ⟨rfl, U, G3.out, R3.out, mrg_end (by have := HX.out; omega) (by have := HX.out; omega) HSp.out HF3.out HT0.out (Prm.refl _ _ _) HU.out.1 HU.out.2⟩)
  ·as_aux_lemma =>
   have i1 : ¬ (st : Int) < (m : Int) := by omega
   have i3 : ¬ (a : Int) < (st : Int) := by omega
   have i5 : ¬ (mid : Int) < (en : Int) := by omega
   have HT0 := Lh (HF1.out.one (by omega))
   have HU0 := Lh (HF2.out.one (by omega))
   obtain rfl : R = S := by rw [← HSe.out]; exact (rot_id R (by omega)).symm
   have G1 := HG0
   have R1 := HRw
   clear kr ka kb HLo HHi
   have G2 := G1
   go_wp2_with fail
   all_goals (go_end0; exact ⟨rfl, R, G2.out, R1.out, mrg_end (by have := HX.out; omega) (by have := HX.out; omega) HSp.out HF3.out HT0.out (Prm.refl _ _ _) HU0.out (Prm.refl _ _ _)⟩)
  ·as_aux_lemma =>
   have i1 : ¬ (st : Int) < (m : Int) := by omega
   have i3 : ¬ (a : Int) < (st : Int) := by omega
   have i5 : (mid : Int) < (en : Int) := by omega
   have i6 : ¬ (en : Int) < (e : Int) := by omega
   have HT0 := Lh (HF1.out.one (by omega))
   have HU0 := Lh (HF2.out.one (by omega))
   obtain rfl : R = S := by rw [← HSe.out]; exact (rot_id R (by omega)).symm
   have G1 := HG0
   have R1 := HRw
   clear kr ka kb HLo HHi
   have G2 := G1
   go_wp2_with fail
   all_goals (go_end0; exact ⟨rfl, R, G2.out, R1.out, mrg_end (by have := HX.out; omega) (by have := HX.out; omega) HSp.out HF3.out HT0.out (Prm.refl _ _ _) HU0.out (Prm.refl _ _ _)⟩)
  ·as_aux_lemma =>
   have i1 : ¬ (st : Int) < (m : Int) := by omega
   have i3 : (a : Int) < (st : Int) := by omega
   have i4 : ¬ (st : Int) < (mid : Int) := by omega
   have i5 : (mid : Int) < (en : Int) := by omega
   have i6 : (en : Int) < (e : Int) := by omega
   have HBs := Lh kb
   have HT0 := Lh (HF1.out.one (by omega))
   obtain rfl : R = S := by rw [← HSe.out]; exact (rot_id R (by omega)).symm
   have G1 := HG0
   have R1 := HRw
   clear kr ka kb HLo HHi
   have G2 := G1
   have C2 := Lh (IH.out mid en e R wr (by have := HX.out; have := HBs.out; omega) (by have := HBs.out; omega) (by have := HBs.out; omega) (by have := HX.out; omega) HF2.out HSn.out R1.out (HC0.out.wr G1.out))
   go_wp2_with (first
    | (go_at_call 202; (with_reducible refine C2.out.mono ?_); rintro e w3 ⟨rfl, U, g3, r3, t1, t2⟩; have G3 := Lh (G2.out.trans g3); have R3 := Lh r3; have HU := Lh (And.intro t1 t2); clear g3 r3 t1 t2 C2))
   all_goals (go_end0; exact ⟨rfl, U, G3.out, R3.out, mrg_end (by have := HX.out; omega) (by have := HX.out; omega) HSp.out HF3.out HT0.out (Prm.refl _ _ _) HU.out.1 HU.out.2⟩)
  ·as_aux_lemma =>
   have i1 : ¬ (st : Int) < (m : Int) := by omega
   have i3 : (a : Int) < (st : Int) := by omega
   have i4 : ¬ (st : Int) < (mid : Int) := by omega
   have i5 : ¬ (mid : Int) < (en : Int) := by omega
   have HT0 := Lh (HF1.out.one (by omega))
   have HU0 := Lh (HF2.out.one (by omega))
   obtain rfl : R = S := by rw [← HSe.out]; exact (rot_id R (by omega)).symm
   have G1 := HG0
   have R1 := HRw
   clear kr ka kb HLo HHi
   have G2 := G1
   go_wp2_with fail
   all_goals (go_end0; exact ⟨rfl, R, G2.out, R1.out, mrg_end (by have := HX.out; omega) (by have := HX.out; omega) HSp.out HF3.out HT0.out (Prm.refl _ _ _) HU0.out (Prm.refl _ _ _)⟩)
  ·as_aux_lemma =>
   have i1 : ¬ (st : Int) < (m : Int) := by omega
   have i3 : (a : Int) < (st : Int) := by omega
   have i4 : ¬ (st : Int) < (mid : Int) := by omega
   have i5 : (mid : Int) < (en : Int) := by omega
   have i6 : ¬ (en : Int) < (e : Int) := by omega
   have HT0 := Lh (HF1.out.one (by omega))
   have HU0 := Lh (HF2.out.one (by omega))
   obtain rfl : R = S := by rw [← HSe.out]; exact (rot_id R (by omega)).symm
   have G1 := HG0
   have R1 := HRw
   clear kr ka kb HLo HHi
   have G2 := G1
   go_wp2_with fail
   all_goals (go_end0; exact ⟨rfl, R, G2.out, R1.out, mrg_end (by have := HX.out; omega) (by have := HX.out; omega) HSp.out HF3.out HT0.out (Prm.refl _ _ _) HU0.out (Prm.refl _ _ _)⟩)
  ·as_aux_lemma =>
   have i1 : (st : Int) < (m : Int) := by omega
   have i2 : ¬ (m : Int) < (en : Int) := by omega
   have i3 : (a : Int) < (st : Int) := by omega
   have i4 : (st : Int) < (mid : Int) := by omega
   have i5 : (mid : Int) < (en : Int) := by omega
   have i6 : (en : Int) < (e : Int) := by omega
   have HBr := Lh ka
   have HBs := Lh kb
   obtain rfl : R = S := by rw [← HSe.out]; exact (rot_id R (by omega)).symm
   have G1 := HG0
   have R1 := HRw
   clear kr ka kb HLo HHi
   have C1 := Lh (IH.out a st mid R wr (by have := HX.out; have := HBr.out; omega) (by have := HBr.out; omega) (by have := HBr.out; omega) (by have := HX.out; omega) HF1.out HSn.out R1.out (HC0.out.wr G1.out))
   go_wp2_with (first
    | (go_at_call 202; (with_reducible refine C1.out.mono ?_); rintro e w2 ⟨rfl, T, g2, r2, t1, t2⟩; have G2 := Lh (G1.out.trans g2); have R2 := Lh r2; have HT := Lh (And.intro t1 t2); have C2 := Lh (IH.out mid en e T w2 (by have := HX.out; have := HBs.out; omega) (by have := HBs.out; omega) (by have := HBs.out; omega) (by have := HX.out; omega) (HF2.out.keep t2 (by have := HX.out; omega)) (prm_lt t2 (by have := HX.out; omega) HSn.out) R2.out (HC0.out.wr G2.out)); clear g2 r2 t1 t2 C1)
    | (go_at_call 202; (with_reducible refine C2.out.mono ?_); rintro e w3 ⟨rfl, U, g3, r3, t1, t2⟩; have G3 := Lh (G2.out.trans g3); have R3 := Lh r3; have HU := Lh (And.intro t1 t2); clear g3 r3 t1 t2 C2))
   all_goals (go_end0; exact ⟨rfl, U, G3.out, R3.out, mrg_end (by have := HX.out; omega) (by have := HX.out; omega) HSp.out HF3.out HT.out.1 HT.out.2 HU.out.1 HU.out.2⟩)
  ·as_aux_lemma =>
   have i1 : (st : Int) < (m : Int) := by omega
   have i2 : ¬ (m : Int) < (en : Int) := by omega
   have i3 : (a : Int) < (st : Int) := by omega
   have i4 : (st : Int) < (mid : Int) := by omega
   have i5 : ¬ (mid : Int) < (en : Int) := by omega
   have HBr := Lh ka
   have HU0 := Lh (HF2.out.one (by omega))
   obtain rfl : R = S := by rw [← HSe.out]; exact (rot_id R (by omega)).symm
   have G1 := HG0
   have R1 := HRw
   clear kr ka kb HLo HHi
   have C1 := Lh (IH.out a st mid R wr (by have := HX.out; have := HBr.out; omega) (by have := HBr.out; omega) (by have := HBr.out; omega) (by have := HX.out; omega) HF1.out HSn.out R1.out (HC0.out.wr G1.out))
   go_wp2_with (first
    | (go_at_call 202; (with_reducible refine C1.out.mono ?_); rintro e w2 ⟨rfl, T, g2, r2, t1, t2⟩; have G2 := Lh (G1.out.trans g2); have R2 := Lh r2; have HT := Lh (And.intro t1 t2); clear g2 r2 t1 t2 C1))
   all_goals (go_end0; exact ⟨rfl, T, G2.out, R2.out, mrg_end (by have := HX.out; omega) (by have := HX.out; omega) HSp.out HF3.out HT.out.1 HT.out.2 (HU0.out.congr fun q k1 _ => HT.out.2.out q (.inr k1)) (Prm.refl _ _ _)⟩)
  ·as_aux_lemma =>
   have i1 : (st : Int) < (m : Int) := by omega
   have i2 : ¬ (m : Int) < (en : Int) := by omega
   have i3 : (a : Int) < (st : Int) := by omega
   have i4 : (st : Int) < (mid : Int) := by omega
   have i5 : (mid : Int) < (en : Int) := by omega
   have i6 : ¬ (en : Int) < (e : Int) := by omega
   have HBr := Lh ka
   have HU0 := Lh (HF2.out.one (by omega))
   obtain rfl : R = S := by rw [← HSe.out]; exact (rot_id R (by omega)).symm
   have G1 := HG0
   have R1 := HRw
   clear kr ka kb HLo HHi
   have C1 := Lh (IH.out a st mid R wr (by have := HX.out; have := HBr.out; omega) (by have := HBr.out; omega) (by have := HBr.out; omega) (by have := HX.out; omega) HF1.out HSn.out R1.out (HC0.out.wr G1.out))
   go_wp2_with (first
    | (go_at_call 202; (with_reducible refine C1.out.mono ?_); rintro e w2 ⟨rfl, T, g2, r2, t1, t2⟩; have G2 := Lh (G1.out.trans g2); have R2 := Lh r2; have HT := Lh (And.intro t1 t2); clear g2 r2 t1 t2 C1))
   all_goals (go_end0; exact ⟨rfl, T, G2.out, R2.out, mrg_end (by have := HX.out; omega) (by have := HX.out; omega) HSp.out HF3.out HT.out.1 HT.out.2 (HU0.out.congr fun q k1 _ => HT.out.2.out q (.inr k1)) (Prm.refl _ _ _)⟩)
  ·as_aux_lemma =>
   have i1 : (st : Int) < (m : Int) := by omega
   have i2 : ¬ (m : Int) < (en : Int) := by omega
   have i3 : ¬ (a : Int) < (st : Int) := by omega
   have i5 : (mid : Int) < (en : Int) := by omega
   have i6 : (en : Int) < (e : Int) := by omega
   have HBs := Lh kb
   have HT0 := Lh (HF1.out.one (by omega))
   obtain rfl : R = S := by rw [← HSe.out]; exact (rot_id R (by omega)).symm
   have G1 := HG0
   have R1 := HRw
   clear kr ka kb HLo HHi
   have G2 := G1
   have C2 := Lh (IH.out mid en e R wr (by have := HX.out; have := HBs.out; omega) (by have := HBs.out; omega) (by have := HBs.out; omega) (by have := HX.out; omega) HF2.out HSn.out R1.out (HC0.out.wr G1.out))
   go_wp2_with (first
    | (go_at_call 202; (with_reducible refine C2.out.mono ?_); rintro e w3 ⟨rfl, U, g3, r3, t1, t2⟩; have G3 := Lh (G2.out.trans g3); have R3 := Lh r3; have HU := Lh (And.intro t1 t2); clear g3 r3 t1 t2 C2))
   all_goals (go_end0; exact ⟨rfl, U, G3.out, R3.out, mrg_end (by have := HX.out; omega) (by have := HX.out; omega) HSp.out HF3.out HT0.out (Prm.refl _ _ _) HU.out.1 HU.out.2⟩)
  ·as_aux_lemma =>
   have i1 : (st : Int) < (m : Int) := by omega
   have i2 : ¬ (m : Int) < (en : Int) := by omega
   have i3 : ¬ (a : Int) < (st : Int) := by omega
   have i5 : ¬ (mid : Int) < (en : Int) := by omega
   have HT0 := Lh (HF1.out.one (by omega))
   have HU0 := Lh (HF2.out.one (by omega))
   obtain rfl : R = S := by rw [← HSe.out]; exact (rot_id R (by omega)).symm
   have G1 := HG0
   have R1 := HRw
   clear kr ka kb HLo HHi
   have G2 := G1
   go_wp2_with fail
   all_goals (go_end0; exact ⟨rfl, R, G2.out, R1.out, mrg_end (by have := HX.out; omega) (by have := HX.out; omega) HSp.out HF3.out HT0.out (Prm.refl _ _ _) HU0.out (Prm.refl _ _ _)⟩)
  ·as_aux_lemma =>
   have i1 : (st : Int) < (m : Int) := by omega
   have i2 : ¬ (m : Int) < (en : Int) := by omega
   have i3 : ¬ (a : Int) < (st : Int) := by omega
   have i5 : (mid : Int) < (en : Int) := by omega
   have i6 : ¬ (en : Int) < (e : Int) := by omega
   have HT0 := Lh (HF1.out.one (by omega))
   have HU0 := Lh (HF2.out.one (by omega))
   obtain rfl : R = S := by rw [← HSe.out]; exact (rot_id R (by omega)).symm
   have G1 := HG0
   have R1 := HRw
   clear kr ka kb HLo HHi
   have G2 := G1
   go_wp2_with fail
   all_goals (go_end0; exact ⟨rfl, R, G2.out, R1.out, mrg_end (by have := HX.out; omega) (by have := HX.out; omega) HSp.out HF3.out HT0.out (Prm.refl _ _ _) HU0.out (Prm.refl _ _ _)⟩)
  ·as_aux_lemma =>
   have i1 : (st : Int) < (m : Int) := by omega
   have i2 : ¬ (m : Int) < (en : Int) := by omega
   have i3 : (a : Int) < (st : Int) := by omega
   have i4 : ¬ (st : Int) < (mid : Int) := by omega
   have i5 : (mid : Int) < (en : Int) := by omega
   have i6 : (en : Int) < (e : Int) := by omega
   have HBs := Lh kb
   have HT0 := Lh (HF1.out.one (by omega))
   obtain rfl : R = S := by rw [← HSe.out]; exact (rot_id R (by omega)).symm
   have G1 := HG0
   have R1 := HRw
   clear kr ka kb HLo HHi
   have G2 := G1
   have C2 := Lh (IH.out mid en e R wr (by have := HX.out; have := HBs.out; omega) (by have := HBs.out; omega) (by have := HBs.out; omega) (by have := HX.out; omega) HF2.out HSn.out R1.out (HC0.out.wr G1.out))
   go_wp2_with (first
    | (go_at_call 202; (with_reducible refine C2.out.mono ?_); rintro e w3 ⟨rfl, U, g3, r3, t1, t2⟩; have G3 := Lh (G2.out.trans g3); have R3 := Lh r3; have HU := Lh (And.intro t1 t2); clear g3 r3 t1 t2 C2))
   all_goals (go_end0; exact ⟨rfl, U, G3.out, R3.out, mrg_end (by have := HX.out; omega) (by have := HX.out; omega) HSp.out HF3.out HT0.out (Prm.refl _ _ _) HU.out.1 HU.out.2⟩)
  ·as_aux_lemma =>
   have i1 : (st : Int) < (m : Int) := by omega
   have i2 : ¬ (m : Int) < (en : Int) := by omega
   have i3 : (a : Int) < (st : Int) := by omega
   have i4 : ¬ (st : Int) < (mid : Int) := by omega
   have i5 : ¬ (mid : Int) < (en : Int) := by omega
   have HT0 := Lh (HF1.out.one (by omega))
   have HU0 := Lh (HF2.out.one (by omega))
   obtain rfl : R = S := by rw [← HSe.out]; exact (rot_id R (by omega)).symm
   have G1 := HG0
   have R1 := HRw
   clear kr ka kb HLo HHi
   have G2 := G1
   go_wp2_with fail
   all_goals (go_end0; exact ⟨rfl, R, G2.out, R1.out, mrg_end (by have := HX.out; omega) (by have := HX.out; omega) HSp.out HF3.out HT0.out (Prm.refl _ _ _) HU0.out (Prm.refl _ _ _)⟩)
  as_aux_lemma =>
  have i1 : (st : Int) < (m : Int) := by omega
  have i2 : ¬ (m : Int) < (en : Int) := by omega
  have i3 : (a : Int) < (st : Int) := by omega
  have i4 : ¬ (st : Int) < (mid : Int) := by omega
  have i5 : (mid : Int) < (en : Int) := by omega
  have i6 : ¬ (en : Int) < (e : Int) := by omega
  have HT0 := Lh (HF1.out.one (by omega))
  have HU0 := Lh (HF2.out.one (by omega))
  obtain rfl : R = S := by rw [← HSe.out]; exact (rot_id R (by omega)).symm
  have G1 := HG0
  have R1 := HRw
  clear kr ka kb HLo HHi
  have G2 := G1
  go_wp2_with fail
  all_goals (go_end0; exact ⟨rfl, R, G2.out, R1.out, mrg_end (by have := HX.out; omega) (by have := HX.out; omega) HSp.out HF3.out HT0.out (Prm.refl _ _ _) HU0.out (Prm.refl _ _ _)⟩)
end Go.Proofs.YtehdemcfeoiecaaGreatDoor.RI
