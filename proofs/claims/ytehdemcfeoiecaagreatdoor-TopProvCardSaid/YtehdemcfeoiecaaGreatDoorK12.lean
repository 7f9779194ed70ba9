import Derived.Test.YtehdemcfeoiecaaGreatDoorK11
set_option maxHeartbeats 64000000
set_option maxRecDepth 100000
namespace Go.Proofs.YtehdemcfeoiecaaGreatDoor.RS
open Go.RowKit Go.Firn Go.Firn.Tb
theorem wrap2 {k n : Nat} (h : k < n ∧ n ≤ 1000) : IntKind.i64.wrap ((k : Int) + 1) = ((k + 1 : Nat) : Int) ∧ wrap64 ((k : Int) + 1) = ((k + 1 : Nat) : Int) := by
 refine ⟨?_, ?_⟩
 ·rw [IntWalk.i64_in _ (by omega)]; omega
 rw [IntWalk.wrap64_in _ (by omega)]; omega
theorem scrTNs_does_drop {P : Prop} (h : P := by
  have hnp := hp.1
  have hnc := hp.2.1
  have hnone := hp.2.2.2.1
  have HP := Lh hp
  have HF := Lh hF
  have HL := Lh (And.intro hL (And.intro hG hM))
  first | (have z := zS; clear z; obtain ⟨w1, hw1⟩ : ∃ w1, w.alloc (.cells #[.func (.func F.p) #[] F.pb, .func (.func F.t) #[] F.tb, .func (.func F.s) #[] F.sb, .func (.func F.f) #[] F.fb] 117) = w1 := ⟨_, rfl⟩) | (obtain ⟨w1, hw1⟩ : ∃ w1, w.alloc (.cells #[.func (.func F.p) #[] F.pb, .func (.func F.t) #[] F.tb, .func (.func F.s) #[] F.sb, .func (.func F.f) #[] F.fb] 63) = w1 := ⟨_, rfl⟩)
  have g1 : Gr w w1 := hw1 ▸ (Gr.refl w).alloc _
  obtain ⟨f0, f1, f2, f3⟩ := BoxF.new hw1
  obtain ⟨w2, hw2⟩ : ∃ w2, w1.alloc (.cells #[.int .i64 (stp (.drop k)).1, .int .i64 (stp (.drop k)).2.1, .int .i64 (stp (.drop k)).2.2] 103) = w2 := ⟨_, rfl⟩
  have g2 : Gr w1 w2 := hw2 ▸ (Gr.refl w1).alloc _
  have z0 : w2.cell? ⟨w1.heap.size, 0, none⟩ = some (.int .i64 (stp (.drop k)).1) := by rw [← hw2]; simp
  have z1 : w2.cell? ⟨w1.heap.size, 1, none⟩ = some (.int .i64 (stp (.drop k)).2.1) := by rw [← hw2]; simp
  have z2 : w2.cell? ⟨w1.heap.size, 2, none⟩ = some (.int .i64 (stp (.drop k)).2.2) := by rw [← hw2]; simp
  replace f0 := g2.cell f0
  replace f1 := g2.cell f1
  replace f2 := g2.cell f2
  replace f3 := g2.cell f3
  have HG2 := Lh (g1.trans g2)
  unfold RF.val
  simp only [stp] at z0 z1 z2 hw2 ⊢
  clear hp hF hL hG hM g1 g2
  generalize hbx : w.heap.size = bx at *
  generalize hbw : w1.heap.size = bw at *
  obtain ⟨kk, hkk⟩ : ∃ kk, n = kk + 1 := ⟨n - 1, by omega⟩
  have hp2 : p.length = kk + 1 := by omega
  obtain ⟨b, o, a1, n1, c1, rfl, q1, t1⟩ := HP.out.at (k := kk) (by omega)
  replace q1 := HG2.out.cell q1
  have ht1 := (t1.gr HG2.out).own
  obtain ⟨X, hX, dX⟩ := ht1
  have HX := Lh hX
  have HDX := Lh dX
  have i1 : (kk : Int) < (n : Int) := by omega
  have HKK := Lh (show restW (.drop k) p = p.take kk by show p.take (p.length - 1) = _; rw [hp2, Nat.add_sub_cancel])
  have HP2 := Lh (show p.getD (p.length - 1) [] = p.getD kk [] by rw [hp2]; rfl)
  have hkn : kk ≤ n := by omega
  have hkp : kk ≤ p.length := by omega
  have HC := Lh (show (∀ x ∈ p.getD kk [], colOk (.drop k) x.1.length) ∧ (p.getD kk []).length ≤ 1000 by rw [← HP2.out]; exact ⟨hcol, hlen⟩)
  have HCut := Lh (show cutW R tabs (.drop k) p = fK (.drop k) (p.getD kk []) by rw [← HP2.out]; rfl)
  have HN2 := Lh (show n1 = (p.getD kk []).length ∧ n1 ≤ 1000 from ⟨t1.len, by rw [t1.len]; exact HC.out.2⟩)
  rw [HP2.out] at hlen2
  obtain ⟨e1, e1'⟩ := wrap1 hkk hn
  generalize hTT : p.getD kk [] = TT at *
  have HK0 := Lh (And.intro hkn (And.intro hn (And.intro hnc (And.intro hnone hkp))))
  clear t1 hnp hp2 hkk hX dX hcol hlen hk hTT hkn hn hnc hkp hnone
  first | (have z := zS; clear z; go_enter Tryz.func107, Tryz.ntmps107) | (go_enter Tryz.func74, Tryz.ntmps74)
  go_wp2_with fail
  clear q1 i1 e1 e1' hw1 hw2
  go_loopw [10, 27] (fun vo si wr => ∃ (i : Nat) (rawO : List Rw), si = .int .i64 i ∧ Hid (i ≤ n1) ∧ Hid (OwnR w2 wr vo rawO) ∧ Hid (Dat w2 wr rawO (fK (.drop k) (TT.take i)))) (fun _ si _ => n1 - (intOf si).toNat)
  case atStart => exact ⟨0, [], rfl, Lh (Nat.zero_le _), Lh (OwnR.nil w2), Lh (Dat.nil _ _)⟩
  case round =>
   obtain ⟨i, rawO, rfl, Hi, HO, HDO⟩ := hrel
   obtain ⟨ao, co, rfl, _⟩ := HO.out.rd
   by_cases hlt : i < n1
   ·have i1 : (i : Int) < (n1 : Int) := by omega
    obtain ⟨b', o', x, rfl, hx, d1, d2⟩ := (HX.out.gr HO.out.2).at hlt
    obtain ⟨r, hr, xr, xo, xp⟩ := (HDX.out.gr HO.out.2).at hx
    have HTk := Lh (fK_take (s := (.drop k)) hr)
    have hmem := List.mem_of_getElem? hr
    first | (have z := zS; clear z; obtain ⟨wA, hwA⟩ : ∃ wA, wr.alloc (.cells #[.slice x.a x.n x.c, .map (some x.y)] 121) = wA := ⟨_, rfl⟩) | (obtain ⟨wA, hwA⟩ : ∃ wA, wr.alloc (.cells #[.slice x.a x.n x.c, .int .i64 x.y] 98) = wA := ⟨_, rfl⟩)
    have gA : Gr wr wA := hwA ▸ (Gr.refl wr).alloc _
    obtain ⟨zx0, zx1⟩ := boxr' hwA rfl
    have HOA := Lh (HO.out.gr gA)
    have HDA := Lh (HDO.out.gr gA)
    first | (have z := zS; clear z; have HXr := Lh (show Rd3 wA x.a x.n x.c r.1 ∧ Old EW wA 3 x.n x.a ∧ Rep wA x.y r.2 from ⟨xr.gr gA, xo.gr gA, xp.gr gA⟩)) | (have HXr := Lh (show Rd3 wA x.a x.n x.c r.1 ∧ Old w2 wA 3 x.n x.a ∧ Rep wA x.y r.2 from ⟨xr.gr gA, xo.gr gA, xp.gr gA⟩))
    have hcc := HC.out.1 r hmem
    have CK := Lh (show Calls Tryz.prog 102 #[.agg #[.int .i64 3, .int .i64 (k : Nat), .int .i64 0], .slice x.a x.n x.c] wA (RetB (keepsW (.drop k) r.1) wA) from keeps_any (.drop k) x.a x.n x.c r.1 wA (xr.gr gA) (by rw [xr.1]; exact hcc))
    have u0 := (HO.out.2.trans gA).cell z0
    have u1 := (HO.out.2.trans gA).cell z1
    have u2 := (HO.out.2.trans gA).cell z2
    have HMl := Lh (show rawO.length ≤ 1000 from by
     have h1 := HDO.out.1
     have h2 := HN2.out
     have h3 := fK_len (.drop k) (TT.take i)
     rw [List.length_take] at h3; omega)
    have HLi := Lh hlt
    have HOr := HO
    have HDr := HDO
    have HgA := Lh gA
    have HXr0 := Lh xp
    have HKr := Lh (show k < r.1.length ∧ r.1.length ≤ 1000 from ⟨hcc, hlen2 r hmem⟩)
    first | (have z := zS; clear z; have zfA : wA.frozen? ⟨wr.heap.size, 0, none⟩ = false := hwA ▸ ((Gr.refl (wr.alloc (.cells #[.slice x.a x.n x.c, .map (some x.y)] 121))).fresh (j := 0) (v := .slice x.a x.n x.c) rfl).2) | (have zfA : wA.frozen? ⟨wr.heap.size, 0, none⟩ = false := hwA ▸ ((Gr.refl (wr.alloc (.cells #[.slice x.a x.n x.c, .int .i64 x.y] 98))).fresh (j := 0) (v := .slice x.a x.n x.c) rfl).2)
    generalize hq : keepsW (.drop k) r.1 = q at *
    have HQ := Lh hq
    clear hx hr xr xo xp gA hlt HO HDO hmem hcc hq
    obtain ⟨xa, xn, xc, xy⟩ := x
    simp only at d1 d2 hwA HXr zx0 zx1 CK
    generalize hmm : rawO.length = m' at *
    have HMm := Lh hmm
    clear hmm
    cases q with
    | false =>
     have e3 := step64 HLi.out HN2.out.2
     clear z0 z1 z2 f0 f1 f2 f3
     go_wp2_with fail
     refine CK.out.mono ?_
     rintro e wB ⟨rfl, gB⟩
     have HOB := Lh (HOA.out.gr gB)
     have HDB := Lh (HDA.out.gr gB)
     clear d1 d2 hwA gB CK u0 u1 u2 zx0 zx1 i1
     go_wp2_with fail
     go_roundw
     case rel => exact ⟨i + 1, _, by first | (rw [e3]) | rfl | simp, Lh (Nat.succ_le_of_lt HLi.out), HOB, Lh (by rw [HTk.out]; simpa using HDB.out)⟩
     case measure => first | (rw [e3]; exact fall HLi.out) | exact fall HLi.out
    | true =>
     have e3 := step64 HLi.out HN2.out.2
     clear z0 z1 z2 f0 f1 f2 f3
     go_wp2_with fail
     refine CK.out.mono ?_
     rintro e wB ⟨rfl, gB⟩
     have HOB := Lh (HOA.out.gr gB)
     have HDB := Lh (HDA.out.gr gB)
     first | (have z := zS; clear z; have HXB := Lh (show Rd3 wB xa xn xc r.1 ∧ Old EW wB 3 xn xa ∧ Rep wB xy r.2 from ⟨HXr.out.1.gr gB, HXr.out.2.1.gr gB, HXr.out.2.2.gr gB⟩)) | (have HXB := Lh (show Rd3 wB xa xn xc r.1 ∧ Old w2 wB 3 xn xa ∧ Rep wB xy r.2 from ⟨HXr.out.1.gr gB, HXr.out.2.1.gr gB, HXr.out.2.2.gr gB⟩))
     have zx0' := zx0
     replace zx0 := gB.cell zx0
     replace zx1 := gB.cell zx1
     replace u0 := gB.cell u0
     replace u1 := gB.cell u1
     have zfB : wB.frozen? ⟨wr.heap.size, 0, none⟩ = false := by rw [Below.frozen gB (World.block_lt_of_cell? wA _ zx0')]; exact zfA
     have HgB := Lh gB
     obtain ⟨e4, e4'⟩ := wrap2 HKr.out
     clear d1 d2 hwA gB CK u2 i1 zfA zx0' HOA HDA HOB HDB
     go_wp2_with fail
     refine (wpIn_wide (n := 3)).1 ?_
     refine wpIn_region_mark (fun w' => Gr wB w') 10 11 (by kernel_rfl) rfl rfl ?_
     have hS : Gr wB wB.drew := (Gr.refl wB).drew
     refine Mk 0 rfl (c2 zx0 u1) hS ?_; refine Mk 1 rfl (c2 zx0 u1) hS ?_; refine Mk 3 rfl (c2 zx0 u1) hS ?_; refine Mk 4 rfl (c2 zx0 u1) hS ?_; refine Mk 5 rfl (c2 zx0 u1) hS ?_; refine Mk 6 rfl (c2 zx0 u1) hS ?_; refine Mk 7 rfl (c2 zx0 u1) hS ?_
     refine wpAnyMIn_ready [2] (by kernel_rfl) (by simp) ?_
     refine AllMIn.cons rfl (by rfl) (fun K hK => ?_) AllMIn.nil
     go_simp
     refine ⟨trivial, ?_⟩
     refine (callsIn_wide.2 (Clone3_any xa xn xc r.1 _ (HXB.out.1.gr hS) (by have := HXB.out.1.1; have := HKr.out; clear e3 e4; omega) (by have := HXB.out.1.1; have := HKr.out; clear e3 e4; omega))).mono ?_
     rintro e wZ ⟨bN, cN, cur, fz, rfl, l1, l2, l3, l4, l5, gZ, lf⟩
     have HbN := Lh (Nat.le_trans hS.size l5)
     have hS : Gr wB wZ := hS.trans gZ
     have CD := Lh (Delete3_any bN cN k r.1 cur fz wZ HKr.out.1 ⟨l1, l2⟩ l3 lf l4)
     have HcN := Lh (And.intro l1 l2)
     refine hK.out _ _ (fun _ => hS) ?_
     clear hK K gZ l1 l2 l3 l4 l5 lf
     refine wpAnyMIn_ready [8] (by kernel_rfl) (by simp) ?_
     refine AllMIn.cons rfl (by rfl) (fun K hK => ?_) AllMIn.nil
     go_simp
     refine ⟨trivial, ?_⟩
     refine (callsIn_wide.2 CD.out).mono ?_
     rintro e wD ⟨cur', rfl, gD, m1, m2⟩
     have hS : Gr wB wD := hS.grown gD (fun q hq => by cases hq; exact HbN.out)
     have HM := Lh (And.intro m1 m2)
     refine hK.out _ _ (fun _ => hS) ?_
     clear hK K CD gD m1 m2
     refine Mk 9 rfl (fun _ _ => trivial) hS ?_
     have y0 := hS.cell zx0
     have y1 := hS.cell zx1
     have yf : wD.frozen? ⟨wr.heap.size, 0, none⟩ = false := by rw [Below.frozen hS (World.block_lt_of_cell? wB _ zx0)]; exact zfB
     refine wpAnyMIn_ready [10] (by kernel_rfl) (by simp) ?_
     refine AllMIn.cons rfl (by rfl) (fun K hK => ?_) AllMIn.nil
     go_simp
     refine hK.out _ _ (fun h => absurd h (by decide)) ?_
     clear hK K
     refine wpAnyMIn_done (by kernel_rfl) ?_ _
     obtain ⟨wS, hwS⟩ : ∃ wS, wD.setCell ⟨wr.heap.size, 0, none⟩ (.slice (some ⟨bN, 0, none⟩) (r.1.length - 1) cN) = wS := ⟨_, rfl⟩
     have gWr : Wr wr.heap.size wD wS := hwS ▸ (Wr.refl _ wD).set 0 _
     have gS : Gr wr wS := hwS ▸ Gr.setAt (HgA.out.trans (HgB.out.trans hS)) (Nat.le_refl _) _
     have v0 : wS.cell? ⟨wr.heap.size, 0, none⟩ = some (.slice (some ⟨bN, 0, none⟩) (r.1.length - 1) cN) := hwS ▸ cell_near y0 _
     first | (have z := zS; clear z; have v1 : wS.cell? ⟨wr.heap.size, 1, none⟩ = some (.map (some xy)) := by rw [← hwS, World.cell?_setCell_other _ _ _ _ (by simp)]; exact y1) | (have v1 : wS.cell? ⟨wr.heap.size, 1, none⟩ = some (.int .i64 xy) := by rw [← hwS, World.cell?_setCell_other _ _ _ _ (by simp)]; exact y1)
     rw [hwS]
     have HOS := Lh (HOr.out.gr gS)
     have HDS := Lh (HDr.out.gr gS)
     have hof : Off wr.heap.size (r.1.length - 1) (some ⟨bN, 0, none⟩) := .inr fun ad ha e => by
      obtain rfl := Option.some.inj ha
      have h1 := World.block_lt_of_cell? wB _ zx0
      have h2 := HbN.out
      simp only at e h1
      clear e3 e4
      omega
     first | (have z := zS; clear z; have hol : Old EW wD 3 (r.1.length - 1) (some ⟨bN, 0, none⟩) := .inr fun ad ha => by obtain rfl := Option.some.inj ha; exact .inr ⟨_, _, HM.out.2⟩) | (have hol : Old w2 wD 3 (r.1.length - 1) (some ⟨bN, 0, none⟩) := .inr fun ad ha => by obtain rfl := Option.some.inj ha; exact .inr ⟨_, _, HM.out.2⟩)
     first | (have z := zS; clear z; have HXS := Lh (show Rd3 wS (some ⟨bN, 0, none⟩) (r.1.length - 1) cN (r.1.eraseIdx k) ∧ Old EW wS 3 (r.1.length - 1) (some ⟨bN, 0, none⟩) ∧ Rep wS xy r.2 from ⟨⟨(eraseIdx_len HKr.out.1).symm, by have := HcN.out; clear e3 e4; omega, HcN.out.2, (fun e => by cases e), HM.out.1.wr gWr hof⟩, hol.wr gWr hof, HXr0.out.gr gS⟩)) | (have HXS := Lh (show Rd3 wS (some ⟨bN, 0, none⟩) (r.1.length - 1) cN (r.1.eraseIdx k) ∧ Old w2 wS 3 (r.1.length - 1) (some ⟨bN, 0, none⟩) ∧ Rep wS xy r.2 from ⟨⟨(eraseIdx_len HKr.out.1).symm, by have := HcN.out; clear e3 e4; omega, HcN.out.2, (fun e => by cases e), HM.out.1.wr gWr hof⟩, hol.wr gWr hof, HXr0.out.gr gS⟩))
     clear e4' hwS gWr gS y0 y1 yf hS hof hol zx0 zx1 zfB u0 u1 e4
     generalize hlN : r.1.length - 1 = lN at *
     clear hlN
     go_wp2_with (first
      | (at_builtin; refine wpList_app_row rfl _ _ 108 rfl Tryz.underlying108 _ rawO rfl (HOS.out.alloc _) _ ⟨some ⟨bN, 0, none⟩, lN, cN, xy⟩ rfl (boxr' rfl rfl) (by have h1 := HMl.out; have h2 := HMm.out; clear e3; omega) ?_; intro v3 w4 hown3 hg3; have HO3 := Lh hown3; have HD3 := Lh (((HDS.out.gr ((Gr.refl wS).alloc _)).snoc (x := ⟨some ⟨bN, 0, none⟩, lN, cN, xy⟩) (r := (r.1.eraseIdx k, r.2)) (HXS.out.1.gr ((Gr.refl wS).alloc _)) (HXS.out.2.1.gr ((Gr.refl wS).alloc _)) (HXS.out.2.2.gr ((Gr.refl wS).alloc _))).grown (v := .slice ao m' co) (HOS.out.alloc _) hg3); clear hown3 hg3)
      | (at_builtin; refine wpList_app_row rfl _ _ 64 rfl Tryz.underlying64 _ rawO rfl (HOS.out.alloc _) _ ⟨some ⟨bN, 0, none⟩, lN, cN, xy⟩ rfl (boxr' rfl rfl) (by have h1 := HMl.out; have h2 := HMm.out; clear e3; omega) ?_; intro v3 w4 hown3 hg3; have HO3 := Lh hown3; have HD3 := Lh (((HDS.out.gr ((Gr.refl wS).alloc _)).snoc (x := ⟨some ⟨bN, 0, none⟩, lN, cN, xy⟩) (r := (r.1.eraseIdx k, r.2)) (HXS.out.1.gr ((Gr.refl wS).alloc _)) (HXS.out.2.1.gr ((Gr.refl wS).alloc _)) (HXS.out.2.2.gr ((Gr.refl wS).alloc _))).grown (v := .slice ao m' co) (HOS.out.alloc _) hg3); clear hown3 hg3)
      | go_in)
     go_roundw
     case rel => exact ⟨i + 1, _, by first | (rw [e3]) | rfl | simp, Lh (Nat.succ_le_of_lt HLi.out), HO3, Lh (by rw [HTk.out]; first | (rw [if_pos HQ.out]; exact HD3.out) | (rw [if_pos trivial]; exact HD3.out))⟩
     case measure => first | (rw [e3]; exact fall HLi.out) | exact fall HLi.out
   have hin : i = n1 := by have := Hi.out; omega
   subst hin
   have i1 : ¬ (i : Int) < (i : Int) := by omega
   have HD := Lh (show Dat w2 wr rawO (cutW R tabs (.drop k) p) by
    have h0 := HDO.out
    rw [HCut.out]
    rwa [List.take_of_length_le (show TT.length ≤ i by have := HN2.out; omega)] at h0)
   replace f0 := HO.out.2.cell f0
   replace f1 := HO.out.2.cell f1
   replace f2 := HO.out.2.cell f2
   replace f3 := HO.out.2.cell f3
   obtain ⟨hkn, hn, hnc, hnone, hkp⟩ := HK0.out
   clear hlt HDO z0 z1 z2 HX HDX
   first | (have z := zS; clear z; have CG := Lh (show Calls Tryz.prog 141 #[.agg #[.func (.func F.p) #[] F.pb, .func (.func F.t) #[] F.tb, .func (.func F.s) #[] F.sb, .func (.func F.f) #[] F.fb], .slice ao rawO.length co] wr _ from gathered_any F R G μ B w2 wr _ rawO _ HO.out HD.out HL.out.1 (HF.out.gr HG2.out) HL.out.2.1 HL.out.2.2)) | (have CG := Lh (show Calls Tryz.prog 104 #[.agg #[.func (.func F.p) #[] F.pb, .func (.func F.t) #[] F.tb, .func (.func F.s) #[] F.sb, .func (.func F.f) #[] F.fb], .slice ao rawO.length co] wr _ from gathered_any F R G μ B w2 wr _ rawO _ HO.out HD.out HL.out.1 (HF.out.gr HG2.out) HL.out.2.1 HL.out.2.2))
   generalize rawO.length = rl at *
   obtain ⟨i0, hi, hz0, hz1, hz2⟩ := info_tab
   obtain ⟨olds, ho1, ho2, ho3⟩ := HP.out.olds (k := kk) (by omega)
   have HI := Lh (And.intro hi (And.intro hz0 (And.intro hz1 (And.intro hz2 (And.intro ho1 (And.intro ho2 ho3))))))
   have HK := Lh (And.intro hkn (And.intro hn (And.intro hnc (And.intro hnone hkp))))
   have s1 : (kk : Int) ≤ (c : Int) := by omega
   clear hi hz0 hz1 hz2 ho1 ho2 ho3 hn hnc hnone hkn hkp
   go_wp2_with (first
    | ((first | go_at_call 104 | go_at_call 141); (with_reducible refine CG.out.mono ?_); rintro e w9 ⟨aT, nT, cT, rfl, hT, gT⟩; have HT := Lh hT; have GT := Lh gT; clear hT gT CG)
    | (at_builtin; refine wpList_append_grows _ rfl _ _ 152 rfl 109 i0 _ 1 24 Tryz.underlying152 HI.out.1 HI.out.2.1 HI.out.2.2.1 HI.out.2.2.2.1 rfl (by decide) _ _ _ olds rfl (fun e => by have h1 := HK.out; have h2 := h1.2.2.2.1 e; omega) (by rw [Nat.mul_one]; exact HI.out.2.2.2.2.1) (fun b hb j u hu => ((HG2.out.trans GT.out).trans ((Gr.refl w9).alloc _)).cell (HI.out.2.2.2.2.2.1 b hb j u hu)) _ _ _ [.slice aT nT cT] rfl rfl (fun j u hu => one_cell w9 hu) (by simp [Value.oneCell']) (by omega) (by unfold maxLen; have := HK.out; omega) (by have := HK.out; omega) ?_; intro v3 w4 hown3 hg3; have H3 := Lh hown3; have G3 := Lh ((HG2.out.trans GT.out).trans (((Gr.refl w9).alloc (.cells #[.slice aT nT cT] 109)).grown hg3 (fun k hk => by cases hk))); have GL := Lh (((Gr.refl w9).alloc (.cells #[.slice aT nT cT] 109)).grown hg3 (fun k hk => by cases hk)); clear hown3 hg3)
    | (at_builtin; refine wpList_append_grows _ rfl _ _ 100 rfl 65 i0 _ 1 24 Tryz.underlying100 HI.out.1 HI.out.2.1 HI.out.2.2.1 HI.out.2.2.2.1 rfl (by decide) _ _ _ olds rfl (fun e => by have h1 := HK.out; have h2 := h1.2.2.2.1 e; omega) (by rw [Nat.mul_one]; exact HI.out.2.2.2.2.1) (fun b hb j u hu => ((HG2.out.trans GT.out).trans ((Gr.refl w9).alloc _)).cell (HI.out.2.2.2.2.2.1 b hb j u hu)) _ _ _ [.slice aT nT cT] rfl rfl (fun j u hu => one_cell w9 hu) (by simp [Value.oneCell']) (by omega) (by unfold maxLen; have := HK.out; omega) (by have := HK.out; omega) ?_; intro v3 w4 hown3 hg3; have H3 := Lh hown3; have G3 := Lh ((HG2.out.trans GT.out).trans (((Gr.refl w9).alloc (.cells #[.slice aT nT cT] 65)).grown hg3 (fun k hk => by cases hk))); have GL := Lh (((Gr.refl w9).alloc (.cells #[.slice aT nT cT] 65)).grown hg3 (fun k hk => by cases hk)); clear hown3 hg3)
    | go_in)
   obtain ⟨a', c', rfl, hpl⟩ := RdPl.push (p := p) (k := kk) HI.out.2.2.2.2.1 HI.out.2.2.2.2.2.2 HK.out.2.2.2.2 H3.out G3.out ((HT.out.gr GL.out).own)
   rw [← HKK.out] at hpl
   first | (have z := zS; clear z; refine bodyPost_ret (v := .tuple #[.slice a' (kk + 1) c', .bool _]) (by simp [results, Tryz.results107, go_sem]; rfl) rfl ?_) | (refine bodyPost_ret (v := .tuple #[.slice a' (kk + 1) c', .bool _]) (by simp [results, Tryz.results74, go_sem]; rfl) rfl ?_)
   exact ⟨_, _, _, rfl, hpl, G3.out⟩) : P := h
theorem does_drop (F : RF) (R : Rg SL) (G : SL → Prop) (μ : SL → Nat) (B : Nat) (w : World) (a : Option Addr) (n c : Nat) (tabs p : List (Tbl SL)) (k : Nat) (fv : Value) (hp : RdPl w w a n c p) (hn : n ≤ 1000) (hF : RingOk F R G μ B w) (hL : (cutW R tabs (.drop k) p).length ≤ 1000) (hG : ∀ x ∈ cutW R tabs (.drop k) p, G x.2) (hM : sumT μ (cutW R tabs (.drop k) p) ≤ B) (hk : 1 ≤ p.length) (hcol : ∀ x ∈ p.getD (p.length - 1) [], colOk (.drop k) x.1.length) (hlen : (p.getD (p.length - 1) []).length ≤ 1000) (hlen2 : ∀ x ∈ p.getD (p.length - 1) [], x.1.length ≤ 1000) :
  Calls Tryz.prog 107 #[F.val, .agg #[.int .i64 (stp (.drop k)).1, .int .i64 (stp (.drop k)).2.1, .int .i64 (stp (.drop k)).2.2], .slice a n c, fv] w (RetDo w (restW (.drop k) p ++ [gath R (cutW R tabs (.drop k) p)]) (okT R (gath R (cutW R tabs (.drop k) p)))) := by have zS := trivial; exact scrTNs_does_drop
theorem getD_mem {α : Type} {p : List α} {i : Nat} (d : α) (h : i < p.length) : p.getD i d ∈ p := by
 rw [List.getD_eq_getElem?_getD, List.getElem?_eq_getElem h]
 exact List.getElem_mem h
theorem scrTOs_does_any {P : Prop} (h : P := by
  cases s with
  | put k => exact does_put F R G μ B w a n c tabs p k hp hn hF hL hG hM bt bf (hC k rfl)
  | orr => exact does_orr F R G μ B w a n c tabs p _ hp hn hF hL hG hM hk
  | byy =>
   have h2 : 2 ≤ p.length := hk
   have h3 := hT _ (getD_mem (i := p.length - 2) [] (by omega))
   have h4 := hT _ (getD_mem (i := p.length - 1) [] (by omega))
   exact does_byy F R G μ B w a n c tabs p _ hp hn hF hL hG hM hk ⟨h3.1, h4.1, h3.2, h4.2⟩
  | drop k =>
   have h2 : 1 ≤ p.length := hk
   have h4 := hT _ (getD_mem (i := p.length - 1) [] (by omega))
   exact does_drop F R G μ B w a n c tabs p k _ hp hn hF hL hG hM hk hcol h4.1 (fun x hx => by have := (h4.2 x hx).2.1; omega)
  | pick k m =>
   have h2 : 1 ≤ p.length := hk
   have h4 := hT _ (getD_mem (i := p.length - 1) [] (by omega))
   exact does_pick F R G μ B w a n c tabs p k m _ hp hn hF hL hG hM hk hcol h4.1
  | same k m =>
   have h2 : 1 ≤ p.length := hk
   have h4 := hT _ (getD_mem (i := p.length - 1) [] (by omega))
   exact does_same F R G μ B w a n c tabs p k m _ hp hn hF hL hG hM hk hcol h4.1) : P := h
theorem does_any (F : RF) (R : Rg SL) (G : SL → Prop) (μ : SL → Nat) (B : Nat) (w : World) (a : Option Addr) (n c : Nat) (tabs p : List (Tbl SL)) (s : Wd) (bt bf : Nat) (hp : RdPl w w a n c p) (hn : n ≤ 1000) (hF : RingOk F R G μ B w) (hL : (cutW R tabs s p).length ≤ 1000) (hG : ∀ x ∈ cutW R tabs s p, G x.2) (hM : sumT μ (cutW R tabs s p) ≤ B)
  (hk : takesW s ≤ p.length) (hC : ∀ k, s = .put k → ∀ W, Gr w W → Calls Tryz.prog 106 #[.int .i64 k, .pointer (some ⟨bt, 0, none⟩), .pointer (some ⟨bf, 0, none⟩)] W (RetRows W (tabs.getD k [])))
  (hT : ∀ T ∈ p, T.length ≤ 1000 ∧ JoinOk R G T) (hcol : ∀ x ∈ p.getD (p.length - 1) [], colOk s x.1.length) :
  Calls Tryz.prog 107 #[F.val, .agg #[.int .i64 (stp s).1, .int .i64 (stp s).2.1, .int .i64 (stp s).2.2], .slice a n c, .func (.func 106) #[] #[.pointer (some ⟨bt, 0, none⟩), .pointer (some ⟨bf, 0, none⟩)]] w (RetDo w (restW s p ++ [gath R (cutW R tabs s p)]) (okT R (gath R (cutW R tabs s p)))) := by exact scrTOs_does_any
theorem scrTQs_cut_same {P : Prop} (h : P := by
  cases s with
  | byy =>
   have h2 : 2 ≤ p.length := hk
   have h1 := hp.1
   have hu := hp.2 (p.length - 2) (by omega)
   have hv := hp.2 (p.length - 1) (by omega)
   exact by_cut (join_srt' R.mul hu hv) (join_stays hL hu hv)
  | put _ => exact ⟨rfl, fun _ => rfl⟩
  | orr => exact ⟨rfl, fun _ => rfl⟩
  | drop _ => exact ⟨rfl, fun _ => rfl⟩
  | pick _ _ => exact ⟨rfl, fun _ => rfl⟩
  | same _ _ => exact ⟨rfl, fun _ => rfl⟩) : P := h
theorem cut_same {R : Rg SL} {G : SL → Prop} {pw : List Int} {tabs p : List (Tbl SL)} (s : Wd) (hL : RgL R G) (hp : PI R G pw p) (hk : takesW s ≤ p.length) :
  okT R (gath R (cutW R tabs s p)) = okT R (gath R (rowsW R.mul tabs s p)) ∧ (okT R (gath R (rowsW R.mul tabs s p)) = true → gath R (cutW R tabs s p) = gath R (rowsW R.mul tabs s p)) := by exact scrTQs_cut_same
theorem cut_mem {R : Rg SL} {tabs p : List (Tbl SL)} {s : Wd} {x : List Int × SL} (h : x ∈ cutW R tabs s p) : x ∈ rowsW R.mul tabs s p := by
 cases s with
 | byy => exact List.mem_of_mem_take h
 | put _ => exact h
 | orr => exact h
 | drop _ => exact h
 | pick _ _ => exact h
 | same _ _ => exact h
theorem TI.join {R : Rg SL} {G : SL → Prop} {W : Int} {T : Tbl SL} (h : TI R G W T) : T.length ≤ 1000 ∧ JoinOk R G T := by
 have hw := h.w1
 have ho := okT_le h.ok
 refine ⟨by have := ho.1; omega, fun x hx => ?_⟩
 have hl : x.1.length = W.toNat := h.wd x hx
 exact ⟨by omega, by omega, h.gd x hx, h.st x hx, ho.2 x hx⟩
theorem scrTSs_takes_le {P : Prop} (h : P := by
  cases s with
  | put _ =>
   exact Nat.zero_le _
  | orr =>
   unfold widW at hw; simp only [] at hw; split at hw
   ·cases hw
   simp only [takesW]; omega
  | byy =>
   unfold widW at hw; simp only [] at hw; split at hw
   ·cases hw
   simp only [takesW]; omega
  | drop _ =>
   unfold widW at hw; simp only [] at hw; split at hw
   ·cases hw
   simp only [takesW]; omega
  | pick _ _ =>
   unfold widW at hw; simp only [] at hw; split at hw
   ·cases hw
   simp only [takesW]; omega
  | same _ _ =>
   unfold widW at hw; simp only [] at hw; split at hw
   ·cases hw
   simp only [takesW]; omega) : P := h
theorem takes_le {ws pw qw : List Int} {s : Wd} (hw : widW ws s pw = some qw) : takesW s ≤ pw.length := by exact scrTSs_takes_le
theorem scrTSs_col_ok {P : Prop} (h : P := by
  intro x hx
  have h1 := hp.1
  have key : 1 ≤ pw.length → x.1.length = (pw.getD (pw.length - 1) 0).toNat ∧ 1 ≤ pw.getD (pw.length - 1) 0 := fun h => by
   have h2 := hp.2 (pw.length - 1) (by omega)
   rw [h1] at hx
   exact ⟨h2.wd x hx, h2.w1.1⟩
  cases s with
  | put _ =>
   trivial
  | orr =>
   trivial
  | byy =>
   trivial
  | drop k =>
   have h3 := key (takes_le hw)
   unfold widW at hw; simp only [] at hw
   split at hw
   ·cases hw
   split at hw
   ·rename_i h4; simp only [colOk]; omega
   cases hw
  | pick k m =>
   have h3 := key (takes_le hw)
   unfold widW at hw; simp only [] at hw
   split at hw
   ·cases hw
   split at hw
   ·rename_i h4; simp only [colOk]; omega
   cases hw
  | same k m =>
   have h3 := key (takes_le hw)
   unfold widW at hw; simp only [] at hw
   split at hw
   ·cases hw
   split at hw
   ·rename_i h4; simp only [colOk]; omega
   cases hw) : P := h
theorem col_ok {R : Rg SL} {G : SL → Prop} {ws pw qw : List Int} {p : List (Tbl SL)} {s : Wd} (hp : PI R G pw p) (hw : widW ws s pw = some qw) : ∀ x ∈ p.getD (p.length - 1) [], colOk s x.1.length := by exact scrTSs_col_ok
theorem scrTSs_cut_len {P : Prop} (h : P := by
  have h1 := hp.1
  have hk := takes_le hw
  have last : 1 ≤ pw.length → (p.getD (p.length - 1) []).length ≤ 60 := fun h => by rw [h1]; exact (okT_le (hp.2 (pw.length - 1) (by omega)).ok).1
  cases s with
  | put n =>
   unfold widW at hw; simp only [] at hw
   split at hw
   ·rename_i h
    have := (hg.2 n h).len
    show (tabs.getD n []).length ≤ 120
    omega
   cases hw
  | orr =>
   have h2 : 2 ≤ pw.length := hk
   have h3 := (okT_le (hp.2 (pw.length - 2) (by omega)).ok).1
   have h4 := last (by omega)
   rw [← h1] at h3
   show (p.getD (p.length - 2) [] ++ p.getD (p.length - 1) []).length ≤ 120
   rw [List.length_append]
   omega
  | byy =>
   show (List.take 61 _).length ≤ 120
   rw [List.length_take]
   omega
  | drop _ => exact Nat.le_trans (fK_len _ _) (by have := last hk; omega)
  | pick _ _ => exact Nat.le_trans (fK_len _ _) (by have := last hk; omega)
  | same _ _ => exact Nat.le_trans (fK_len _ _) (by have := last hk; omega)) : P := h
theorem cut_len {R : Rg SL} {G : SL → Prop} {ws pw qw : List Int} {tabs p : List (Tbl SL)} {s : Wd} (hg : GI G ws tabs) (hp : PI R G pw p) (hw : widW ws s pw = some qw) : (cutW R tabs s p).length ≤ 120 := by exact scrTSs_cut_len
theorem PI.mem {R : Rg SL} {G : SL → Prop} {pw : List Int} {p : List (Tbl SL)} (hp : PI R G pw p) {T : Tbl SL} (h : T ∈ p) : ∃ W, TI R G W T := by
 obtain ⟨i, hi, rfl⟩ := List.getElem_of_mem h
 have h1 := hp.2 i (by have := hp.1; omega)
 rw [List.getD_eq_getElem?_getD (l := p), List.getElem?_eq_getElem hi] at h1
 exact ⟨_, h1⟩
theorem scrTUs_step_any {P : Prop} (h : P := by
  have hL := hF.law
  obtain ⟨W, _, _, hri, _⟩ := rows_RI hL hg hP hw
  have hk : takesW s ≤ p.length := by rw [hP.1]; exact takes_le hw
  rw [← (cut_same s hL hP hk).1]
  exact does_any F R G μ B w a n c tabs p s bt bf hp hn hF (Nat.le_trans (cut_len hg hP hw) (by omega)) (fun x hx => hri.gd x (cut_mem hx)) hM hk hC (fun T hT => (PI.mem hP hT).elim fun _ h => TI.join h) (col_ok hP hw)) : P := h
theorem step_any (F : RF) (R : Rg SL) (G : SL → Prop) (μ : SL → Nat) (B : Nat) (w : World) (a : Option Addr) (n c : Nat) (ws pw qw : List Int) (tabs p : List (Tbl SL)) (s : Wd) (bt bf : Nat) (hp : RdPl w w a n c p) (hn : n ≤ 1000) (hF : RingOk F R G μ B w) (hg : GI G ws tabs) (hP : PI R G pw p) (hw : widW ws s pw = some qw) (hM : sumT μ (cutW R tabs s p) ≤ B)
  (hC : ∀ k, s = .put k → ∀ W, Gr w W → Calls Tryz.prog 106 #[.int .i64 k, .pointer (some ⟨bt, 0, none⟩), .pointer (some ⟨bf, 0, none⟩)] W (RetRows W (tabs.getD k []))) :
  Calls Tryz.prog 107 #[F.val, .agg #[.int .i64 (stp s).1, .int .i64 (stp s).2.1, .int .i64 (stp s).2.2], .slice a n c, .func (.func 106) #[] #[.pointer (some ⟨bt, 0, none⟩), .pointer (some ⟨bf, 0, none⟩)]] w (RetDo w (restW s p ++ [gath R (cutW R tabs s p)]) (okT R (gath R (rowsW R.mul tabs s p)))) := by exact scrTUs_step_any
end Go.Proofs.YtehdemcfeoiecaaGreatDoor.RS
namespace Go.Proofs.YtehdemcfeoiecaaGreatDoor.RI
open Go.RowKit Go.Firn Go.Firn.Tb
structure Rw where
 a : Option Addr
 n : Nat
 c : Nat
 y : Int
def Row2 (w : World) (b n : Nat) (R : Nat → Nat) (c : Nat → Rw) : Prop := ∀ p, p < n → w.cell? ⟨b, p * 2, none⟩ = some (.slice (c (R p)).a (c (R p)).n (c (R p)).c) ∧ w.cell? ⟨b, p * 2 + 1, none⟩ = some (.int .i64 (c (R p)).y) ∧ w.frozen? ⟨b, p * 2, none⟩ = false ∧ w.frozen? ⟨b, p * 2 + 1, none⟩ = false
theorem Row2.gr {w w' : World} {b n : Nat} {R : Nat → Nat} {c : Nat → Rw} (h : Row2 w b n R c) (k : Gr w w') : Row2 w' b n R c := fun p hp => by
 obtain ⟨h1, h2, h3, h4⟩ := h p hp
 exact ⟨k.cell h1, k.cell h2, (Below.frozen k (World.block_lt_of_cell? w _ h1)).trans h3, (Below.frozen k (World.block_lt_of_cell? w _ h2)).trans h4⟩
theorem Row2.congr {w : World} {b n : Nat} {R S : Nat → Nat} {c : Nat → Rw} (h : Row2 w b n R c) (e : R = S) : Row2 w b n S c := e ▸ h
def exW (w : World) (b i j : Nat) (x y : Rw) : World := (((w.setCell ⟨b, i * 2, none⟩ (.slice y.a y.n y.c)).setCell ⟨b, i * 2 + 1, none⟩ (.int .i64 y.y)).setCell ⟨b, j * 2, none⟩ (.slice x.a x.n x.c)).setCell ⟨b, j * 2 + 1, none⟩ (.int .i64 x.y)
theorem Row2.exc {w : World} {b n : Nat} {R : Nat → Nat} {c : Nat → Rw} (h : Row2 w b n R c) {i j : Nat} (hi : i < n) (hj : j < n) (hij : i ≠ j) : Row2 (exW w b i j (c (R i)) (c (R j))) b n (Tb.exc R i j) c := RS.scrT0s_Row2exc
theorem exW_wr {w0 w : World} {b : Nat} (h : Wr b w0 w) (i j : Nat) (x y : Rw) : Wr b w0 (exW w b i j x y) := (((h.set _ _).set _ _).set _ _).set _ _
def RetSo (b n : Nat) (R : Nat → Nat) (c : Nat → Rw) (w : World) (e : Ending) (w' : World) : Prop := e = .returned (.tuple #[]) ∧ Wr b w w' ∧ Row2 w' b n R c
theorem swap_any (b cap n a m k : Nat) (R : Nat → Nat) (c : Nat → Rw) (w : World) (F : Value) (hn : n ≤ 1000) (h1 : a + k ≤ m) (h2 : m + k ≤ n) (hw : Row2 w b n R c) :
  Calls Tryz.prog 255 #[.slice (some ⟨b, 0, none⟩) n cap, .int .i64 a, .int .i64 m, .int .i64 k, F] w (RetSo b n (swr R a m k) c w) := RS.scrT0s_swap_any
end Go.Proofs.YtehdemcfeoiecaaGreatDoor.RI
