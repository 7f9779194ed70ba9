import Derived.Test.YtehdemcfeoiecaaGreatDoorA21
set_option maxHeartbeats 64000000
set_option maxRecDepth 100000
namespace Go.Proofs.YtehdemcfeoiecaaGreatDoor
open Go.RowKit Go.Firn Go.Firn.Tb
def RetRq (r : Option (List Wd × Int)) (w : World) (e : Ending) (w' : World) : Prop := ∃ a n c W ok, e = .returned (.tuple #[.slice a n c, .int .i64 W, .bool ok]) ∧ Gr w w' ∧ (match r with
 | some x => ok = true ∧ W = x.2 ∧ n = x.1.length ∧ Rd33 w' a n c (x.1.map rwd)
 | none => ok = false)
theorem tri_eq {a b c a' b' c' : Int} (h : (a, b, c) = (a', b', c')) : a = a' ∧ b = b' ∧ c = c' := by
 cases h; exact ⟨rfl, rfl, rfl⟩
theorem boxK (x y z : Int) {w0 w2 wS : World} {v : Value} {L : List Tri} {o : Obj} (h : OwnT 128 w0 w2 v L) (g : ((w2.alloc (.cells #[.int .i64 x, .int .i64 y, .int .i64 z] 128)).alloc o).grownBy wS v.ownBlock) : wS.cell? ⟨w2.heap.size, 0, none⟩ = some (.int .i64 x) ∧ wS.cell? ⟨w2.heap.size, 1, none⟩ = some (.int .i64 y) ∧ wS.cell? ⟨w2.heap.size, 2, none⟩ = some (.int .i64 z) := by
 obtain ⟨z0, z1, z2⟩ := box_tri w2 x y z 128
 have gg := (Gr.refl (w2.alloc (.cells #[.int .i64 x, .int .i64 y, .int .i64 z] 128))).alloc o
 have ne : v.ownBlock ≠ some w2.heap.size := fun e => by
  have := (h.1.lt _ e).2
  omega
 exact ⟨g.cell (gg.cell z0) fun e => ne e.symm, g.cell (gg.cell z1) fun e => ne e.symm, g.cell (gg.cell z2) fun e => ne e.symm⟩
theorem box_tri3 (w : World) (a b c : Int) {bl : Nat} (h : w.heap.size = bl) : (w.alloc (.cells #[.int .i64 a, .int .i64 b, .int .i64 c] 128)).cell? ⟨bl, 0, none⟩ = some (.int .i64 a) ∧ (w.alloc (.cells #[.int .i64 a, .int .i64 b, .int .i64 c] 128)).cell? ⟨bl, 1, none⟩ = some (.int .i64 b) ∧ (w.alloc (.cells #[.int .i64 a, .int .i64 b, .int .i64 c] 128)).cell? ⟨bl, 2, none⟩ = some (.int .i64 c) := by
 subst h
 exact box_tri w a b c 128
theorem take_last {p : List Int} {kk : Nat} (h : p.length = kk + 1) : p.take kk ++ [p.getD kk 0] = p := by
 rw [List.getD_eq_getElem?_getD, List.getElem?_eq_getElem (by omega), Option.getD_some, List.take_append_getElem, List.take_of_length_le (by omega)]
theorem readQuery_any (at_ : Option Addr) (nt ct : Nat) (Ts : List (Int × Tbl SL)) (q : ByteArray) (w : World) (hr : RdWs w at_ nt ct Ts) (hv : vTabs Ts = true) (hq : q.size ≤ 1000000) :
  Calls Tryz.prog 82 #[.slice at_ nt ct, .string q] w (RetRq (qry (wsOf Ts) q.data.toList) w) := by
 have C114 := Lh (split_any q 32 12 w hq (by omega))
 have HX := Lh hr
 have HNt := Lh (show nt = (wsOf Ts).length by rw [hr.1]; simp [wsOf])
 have HW4 := Lh (ws_14 hv)
 have HH4 := Lh (show nt ≤ 4 ∧ nt ≤ 4 by have := HW4.out.2; have := HNt.out; omega)
 obtain ⟨KS, hKS⟩ : ∃ KS, splitK 32 q.data.toList = KS := ⟨_, rfl⟩
 have HQr := Lh (show qry (wsOf Ts) q.data.toList = match planQ (wsOf Ts) KS [] with
   | none => none
   | some x => if x.1.length ≤ 12 ∧ x.2.length = 1 then some (x.1, x.2.getD 0 0) else none by rw [← hKS]; rfl)
 rw [hKS] at C114
 generalize qry (wsOf Ts) q.data.toList = QR at *
 clear hr hv hq hKS
 go_enter Tryz.func82, Tryz.ntmps82
 have h32 : ((32 : UInt8).toNat : Int) = 32 := rfl
 by_cases hbig : 12 < KS.length
 ·have HQ := Lh (show QR = none by
   rw [HQr.out]
   cases hp : planQ (wsOf Ts) KS [] with
   | none => rfl
   | some x =>
    have := planQ_len hp
    simp only []
    rw [if_neg (by omega)])
  have HL := Lh (show ((KS.take 13).map bA).length = 13 by rw [List.length_map, List.length_take]; omega)
  clear hbig
  go_wp2_with (go_at_call 114; (refine C114.out.mono ?_); rintro e wB ⟨g, c, rfl, hc, gB⟩; rw [show 12 + 1 = 13 from rfl, HL.out]; have GB := Lh gB; clear hc gB)
  refine bodyPost_ret (v := .tuple #[.slice none 0 0, .int .i64 0, .bool false]) (by simp [results, Tryz.results82, go_sem]) rfl ?_
  exact ⟨none, 0, 0, 0, false, rfl, GB.out.trans (Gr.refl _), by rw [HQ.out]⟩
 have HTk := Lh (show (KS.take (12 + 1)).map bA = KS.map bA by rw [List.take_of_length_le (by omega)])
 have HNl := Lh (show (KS.map bA).length ≤ 12 ∧ (KS.map bA).length = KS.length by rw [List.length_map]; omega)
 rw [HTk.out] at C114
 generalize hn : (KS.map bA).length = n at *
 have i0 : ¬ 12 < (n : Int) := by have := HNl.out; omega
 have i00 : decide (12 < (n : Int)) = false := decide_eq_false i0
 clear hbig
 go_wp2_with (go_at_call 114; (refine C114.out.mono ?_); rintro e wB ⟨g, c, rfl, hc, gB⟩; rw [hn]; have GB := Lh gB; have HC := Lh hc; clear hc gB C114)
 clear i0 i00 h32
 go_loopw [25, 7, 8] (fun si s7 s8 wr => ∃ k : Nat, k ≤ n ∧ si = .int .i64 k ∧ ∃ (ms : List Wd) (pl : List Int), Hid (planQ (wsOf Ts) (KS.take k) [] = some (ms, pl)) ∧ Hid (OwnT 128 wB wr s7 (ms.map rwd)) ∧ Hid (OwnL wB wr s8 pl)) (fun si _ _ _ => n - (intOf si).toNat)
 case atStart => exact ⟨0, Nat.zero_le _, rfl, [], [], Lh rfl, Lh (OwnT.nil' (Gr.refl _)), Lh (OwnL.nil' (Gr.refl _))⟩
 case round =>
  obtain ⟨k, hk, rfl, ms, pl, HP, HO7, HO8⟩ := hrel
  have HBd := planQ_bd HW4.out.1 HP.out W14.nil
  have H14 := Lh (show W14 pl from HBd.1)
  have HPl := Lh (show pl.length ≤ 12 by have := HBd.2; rw [List.length_take] at this; simp at this; have := HNl.out; omega)
  have HMl := Lh (show ms.length ≤ 12 by have := planQ_len HP.out; rw [List.length_take] at this; simp at this; have := HNl.out; omega)
  clear HBd
  obtain ⟨a8, c8, rfl, _⟩ := HO8.out.rd
  by_cases hlt : k < n
  ·obtain ⟨K, hK⟩ : ∃ K, KS[k]? = some K := ⟨_, List.getElem?_eq_getElem (by have := HNl.out; omega)⟩
   have hcell : wr.cell? ⟨g, k, none⟩ = some (.string (bA K)) := HO8.out.2.cell (HC.out k (bA K) (by rw [List.getElem?_map, hK]; rfl))
   have HML := Lh (show (ms.map rwd).length < 999999 by rw [List.length_map]; have := HMl.out; omega)
   have HStep := Lh (show planQ (wsOf Ts) (KS.take (k + 1)) [] = match wdOf K with
     | none => none
     | some w => (widW (wsOf Ts) w pl).map fun q => (ms ++ [w], q) by
    rw [List.take_add_one, hK]
    show planQ (wsOf Ts) (KS.take k ++ [K]) [] = _
    rw [planQ_snoc, HP.out]
    cases wdOf K <;> rfl)
   have HBad := Lh (show planQ (wsOf Ts) (KS.take (k + 1)) [] = none → QR = none from fun h => by
    rw [HQr.out]
    have := planQ_none (KS.drop (k + 1)) h
    rw [List.take_append_drop] at this
    rw [this])
   have HMs := Lh (show ∀ w : Wd, (ms ++ [w]).map rwd = ms.map rwd ++ [rwd w] from fun w => by simp)
   have HPn0 := HP
   have Hlt := Lh hlt
   have i1 : (k : Int) < (n : Int) := by omega
   have w9 := Lh (show wrap64 ((k : Int) + 1) = ((k + 1 : Nat) : Int) by rw [IntWalk.wrap64_in _ (by have := HNl.out; omega)]; omega)
   clear hK hlt HP HPn0
   cases hwd : wdOf K with
   | none =>
    rw [hwd] at HStep
    have HQ := Lh (HBad.out HStep.out)
    have HWd := Lh hwd
    have C115 := Lh (fun W => show Calls Tryz.prog 115 #[.string (bA K), .int .i64 nt] W (fun e w' => ∃ a b c, e = .returned (.tuple #[.agg #[.int .i64 a, .int .i64 b, .int .i64 c], .bool false]) ∧ Gr W w') from (readWord_any K nt HH4.out.1 W).mono fun e w' ⟨a, b, c, ok, he, hg, hm⟩ => by
     rw [HWd.out] at hm
     have h1 : ok = false := hm
     exact ⟨a, b, c, by rw [he, h1], hg⟩)
    clear HStep HBad HWd hwd HMs
    go_wp2_with (go_at_call 115; (refine (C115.out _).mono ?_); rintro e w2 ⟨a', b', c', rfl, g2⟩; have G2 := Lh g2; clear g2)
    refine bodyPost_ret (v := .tuple #[.slice none 0 0, .int .i64 0, .bool false]) (by simp [results, Tryz.results82, go_sem]) rfl ?_
    exact ⟨none, 0, 0, 0, false, rfl, GB.out.trans (HO8.out.2.trans (G2.out.trans ((Gr.refl _).alloc _))), by rw [HQ.out]⟩
   | some wd =>
    rw [hwd] at HStep
    simp only [] at HStep
    have HWd := Lh hwd
    clear hwd
    cases wd with
    | put i =>
     as_aux_lemma =>
      by_cases hi : i < nt
      ·obtain ⟨bt, ot, r, a1, n1, cc1, rfl, hx, k1, _, _⟩ := (HX.out.gr GB.out).at hi
       have C115 := Lh (fun W => show Calls Tryz.prog 115 #[.string (bA K), .int .i64 nt] W (fun e w' => e = .returned (.tuple #[.agg #[.int .i64 1, .int .i64 (i : Int), .int .i64 0], .bool true]) ∧ Gr W w') from (readWord_any K nt HH4.out.1 W).mono fun e w' ⟨a, b, c, ok, he, hg, hm⟩ => by
        rw [HWd.out] at hm
        obtain ⟨h1, h2⟩ := hm
        rw [show okP nt (.put i) = true from decide_eq_true hi] at h1
        obtain ⟨rfl, rfl, rfl⟩ := tri_eq h2
        exact ⟨by rw [he, h1], hg⟩)
       have HPn := Lh (show planQ (wsOf Ts) (KS.take (k + 1)) [] = some (ms ++ [.put i], pl ++ [r.1]) by
        rw [HStep.out]; unfold widW; simp only []; rw [if_pos (by rw [← HNt.out]; exact hi), (tabsOf_at (φ := fun L => L) hx).2]; rfl)
       have HT1 := Lh k1
       have i2 : (i : Int) < (nt : Int) := by omega
       have HPc := Lh (show pl.length + 1 ≤ 1000000 by have := HPl.out; omega)
       clear HStep HBad HWd hi hx k1
       generalize r.1 = rW at *
       go_wp2_with (first
        | (go_at_call 115; (refine (C115.out _).mono ?_); rintro e w2 ⟨rfl, g2⟩; have HO2 := Lh (HO7.out.gr g2); have HO3 := Lh (HO8.out.gr g2); clear g2 C115)
        | (at_builtin; refine wpList_app_tri info_word rfl _ _ 74 rfl Tryz.underlying74 _ (ms.map rwd) rfl (HO2.out.gr (((Gr.refl w2).alloc (.cells #[.int .i64 1, .int .i64 (i : Int), .int .i64 0] 128)).alloc (.cells #[.int .i64 1, .int .i64 (i : Int), .int .i64 0] 128))) _ ((1 : Int), (i : Int), (0 : Int)) rfl (box_tri3 (w2.alloc (.cells #[.int .i64 1, .int .i64 (i : Int), .int .i64 0] 128)) (1 : Int) (i : Int) (0 : Int) (by simp)) HML.out ?_; intro v7' wS h7 g7; obtain ⟨z0, z1, z2⟩ := boxK (1 : Int) (i : Int) (0 : Int) HO2.out g7; have H7 := Lh h7; have H8 := Lh (OwnL.other (HO3.out.gr (((Gr.refl w2).alloc (.cells #[.int .i64 1, .int .i64 (i : Int), .int .i64 0] 128)).alloc (.cells #[.int .i64 1, .int .i64 (i : Int), .int .i64 0] 128))) (HO2.out.gr (((Gr.refl w2).alloc (.cells #[.int .i64 1, .int .i64 (i : Int), .int .i64 0] 128)).alloc (.cells #[.int .i64 1, .int .i64 (i : Int), .int .i64 0] 128))).1 (by decide) (Nat.le_refl _) g7); have kt := H7.out.2.cell HT1.out; have HL8 := Lh (H8.out.gr ((Gr.refl wS).alloc (.cells #[.int .i64 rW] 3))); have HL7 := Lh (H7.out.gr ((Gr.refl wS).alloc (.cells #[.int .i64 rW] 3))); have HC2 := Lh (lit1_at wS rW); clear h7 g7 HO3)
        | (at_builtin; go_must (refine wpList_cat_ints rfl _ _ rfl _ pl [rW] rfl HL8.out wS.heap.size 0 1 1 rfl rfl HC2.out HPc.out ?_); intro v8' w6 h6 g6; have H9 := Lh h6; have H7' := Lh (OwnT.other HL7.out HL8.out.1 (by decide) (Nat.le_refl _) g6); have e9 := w9.out; clear h6 g6 i1 i2))
       go_roundw
       case rel => exact ⟨k + 1, Hlt.out, by first | rw [e9] | rfl, _, _, HPn, Lh (by rw [HMs.out]; exact H7'.out), H9⟩
       case measure => first | (rw [e9]; exact RI.fall Hlt.out) | exact RI.fall Hlt.out
      have HQ := Lh (HBad.out (by rw [HStep.out]; unfold widW; simp only []; rw [if_neg (by rw [← HNt.out]; exact hi)]; rfl))
      have C115 := Lh (fun W => show Calls Tryz.prog 115 #[.string (bA K), .int .i64 nt] W (fun e w' => ∃ a b c, e = .returned (.tuple #[.agg #[.int .i64 a, .int .i64 b, .int .i64 c], .bool false]) ∧ Gr W w') from (readWord_any K nt HH4.out.1 W).mono fun e w' ⟨a, b, c, ok, he, hg, hm⟩ => by
       rw [HWd.out] at hm
       have h1 : ok = false := by rw [hm.1]; exact decide_eq_false hi
       exact ⟨a, b, c, by rw [he, h1], hg⟩)
      clear HStep HBad HWd HMs hi
      go_wp2_with (go_at_call 115; (refine (C115.out _).mono ?_); rintro e w2 ⟨a', b', c', rfl, g2⟩; have G2 := Lh g2; clear g2)
      refine bodyPost_ret (v := .tuple #[.slice none 0 0, .int .i64 0, .bool false]) (by simp [results, Tryz.results82, go_sem]) rfl ?_
      exact ⟨none, 0, 0, 0, false, rfl, GB.out.trans (HO8.out.2.trans (G2.out.trans ((Gr.refl _).alloc _))), by rw [HQ.out]⟩
    | orr =>
     as_aux_lemma =>
      have hwl : ¬ pl.length < 2 → pl.length ≤ 12 := fun _ => HPl.out
      clear hwl
      by_cases hl0 : pl.length < 2
      ·have HQ := Lh (HBad.out (by rw [HStep.out]; unfold widW; simp only []; rw [if_pos hl0]; rfl))
       have C115 := Lh (fun W => show Calls Tryz.prog 115 #[.string (bA K), .int .i64 nt] W (fun e w' => e = .returned (.tuple #[.agg #[.int .i64 2, .int .i64 0, .int .i64 0], .bool true]) ∧ Gr W w') from (readWord_any K nt HH4.out.1 W).mono fun e w' ⟨a, b, c, ok, he, hg, hm⟩ => by
        rw [HWd.out] at hm
        obtain ⟨h1, h2⟩ := hm
        rw [show okP nt (.orr) = true from rfl] at h1
        obtain ⟨rfl, rfl, rfl⟩ := tri_eq h2
        exact ⟨by rw [he, h1], hg⟩)
       have j1 : (pl.length : Int) < 2 := by omega
       have j1d : decide ((pl.length : Int) < 2) = true := decide_eq_true j1
       have j1n : decide (pl.length < 2) = true := decide_eq_true hl0
       clear HStep HBad HWd hl0
       go_wp2_with (first
        | (go_at_call 115; (refine (C115.out _).mono ?_); rintro e w2 ⟨rfl, g2⟩; have HO2 := Lh (HO7.out.gr g2); have HO3 := Lh (HO8.out.gr g2); clear g2 C115)
        | (at_builtin; refine wpList_app_tri info_word rfl _ _ 74 rfl Tryz.underlying74 _ (ms.map rwd) rfl (HO2.out.gr (((Gr.refl w2).alloc (.cells #[.int .i64 2, .int .i64 0, .int .i64 0] 128)).alloc (.cells #[.int .i64 2, .int .i64 0, .int .i64 0] 128))) _ ((2 : Int), (0 : Int), (0 : Int)) rfl (box_tri3 (w2.alloc (.cells #[.int .i64 2, .int .i64 0, .int .i64 0] 128)) (2 : Int) (0 : Int) (0 : Int) (by simp)) HML.out ?_; intro v7' wS h7 g7; obtain ⟨z0, z1, z2⟩ := boxK (2 : Int) (0 : Int) (0 : Int) HO2.out g7; have H7 := Lh h7; have H8 := Lh (OwnL.other (HO3.out.gr (((Gr.refl w2).alloc (.cells #[.int .i64 2, .int .i64 0, .int .i64 0] 128)).alloc (.cells #[.int .i64 2, .int .i64 0, .int .i64 0] 128))) (HO2.out.gr (((Gr.refl w2).alloc (.cells #[.int .i64 2, .int .i64 0, .int .i64 0] 128)).alloc (.cells #[.int .i64 2, .int .i64 0, .int .i64 0] 128))).1 (by decide) (Nat.le_refl _) g7); clear h7 g7 HO3))
       refine bodyPost_ret (v := .tuple #[.slice none 0 0, .int .i64 0, .bool false]) (by simp [results, Tryz.results82, go_sem]) rfl ?_
       exact ⟨none, 0, 0, 0, false, rfl, GB.out.trans (H8.out.2), by rw [HQ.out]⟩
      have C115 := Lh (fun W => show Calls Tryz.prog 115 #[.string (bA K), .int .i64 nt] W (fun e w' => e = .returned (.tuple #[.agg #[.int .i64 2, .int .i64 0, .int .i64 0], .bool true]) ∧ Gr W w') from (readWord_any K nt HH4.out.1 W).mono fun e w' ⟨a, b, c, ok, he, hg, hm⟩ => by
       rw [HWd.out] at hm
       obtain ⟨h1, h2⟩ := hm
       rw [show okP nt (.orr) = true from rfl] at h1
       obtain ⟨rfl, rfl, rfl⟩ := tri_eq h2
       exact ⟨by rw [he, h1], hg⟩)
      obtain ⟨kk, hkk⟩ : ∃ kk, pl.length = kk + 2 := ⟨pl.length - 2, by omega⟩
      obtain ⟨bq, cq, e8, hc1, hc2, _⟩ := HO8.out.full (by omega)
      obtain ⟨rfl, _, rfl⟩ : a8 = some ⟨bq, 0, none⟩ ∧ pl.length = pl.length ∧ c8 = cq := by cases e8; exact ⟨rfl, rfl, rfl⟩
      clear e8
      have HCC := Lh (show ∀ W, OwnL wB W (.slice (some ⟨bq, 0, none⟩) pl.length c8) pl → ∀ i, i < pl.length → W.cell? ⟨bq, i, none⟩ = some (.int .i64 (iv pl i)) from fun W hO i hi => by
       obtain ⟨b2, cc2, e2, _, _, h⟩ := hO.full (by omega)
       cases e2
       exact h i hi)
      have b1 := H14.out.at (i := kk) (by omega)
      have b2 := H14.out.at (i := kk + 1) (by omega)
      have HW := Lh (show widW (wsOf Ts) (.orr) pl = _ by unfold widW; simp only []; rw [if_neg (show ¬ pl.length < 2 by omega), hkk])
      rw [show kk + 2 - 2 = kk by omega, show kk + 2 - 1 = kk + 1 by omega] at HW
      have e1 : wrap64 ((pl.length : Int) - 2) = (kk : Int) := by rw [IntWalk.wrap64_in _ (by have := HPl.out; omega)]; omega
      have e2 : IntKind.i64.wrap ((pl.length : Int) - 2) = (kk : Int) := by rw [IntWalk.i64_in _ (by have := HPl.out; omega)]; omega
      obtain ⟨k2, hk2⟩ : ∃ k2, kk + 1 = k2 := ⟨_, rfl⟩
      have e3 : wrap64 ((pl.length : Int) - 1) = (k2 : Int) := by rw [IntWalk.wrap64_in _ (by have := HPl.out; omega)]; omega
      have e4 : IntKind.i64.wrap ((pl.length : Int) - 1) = (k2 : Int) := by rw [IntWalk.i64_in _ (by have := HPl.out; omega)]; omega
      have j5 : (k2 : Int) < (pl.length : Int) := by omega
      have j1 : ¬ (pl.length : Int) < 2 := by omega
      have j1d : decide ((pl.length : Int) < 2) = false := decide_eq_false j1
      have j1n : decide (pl.length < 2) = false := decide_eq_false (by omega)
      have j2 : (kk : Int) ≤ (pl.length : Int) := by omega
      have j3 : (kk : Int) ≤ (c8 : Int) := by omega
      have j4 : (kk : Int) < (pl.length : Int) := by omega
      have HK := Lh hkk
      have HI0 := Lh (show iv pl kk = pl.getD kk 0 from rfl)
      have HI1 := Lh (show iv pl k2 = pl.getD (kk + 1) 0 by rw [hk2]; rfl)
      have HK2 := Lh (show k2 < pl.length by omega)
      clear hk2
      generalize hu : pl.getD kk 0 = u at *
      generalize hv : pl.getD (kk + 1) 0 = v at *
      clear hkk hc1 hc2
      clear hl0
      by_cases he : u = v
      ·have z9 : (u != v) = false := by rw [he]; exact bne_self_eq_false v
       have z8 : decide (4 < u) = false := decide_eq_false (by omega)
       have z7 : ¬ 4 < u := by omega
       have HPn := Lh (show planQ (wsOf Ts) (KS.take (k + 1)) [] = some (ms ++ [.orr], pl.take kk ++ [u]) by rw [HStep.out, HW.out, if_pos he]; rfl)
       clear HW HStep HBad HWd
       clear he b1 b2 hu hv
       go_upto_region 21 with (first
        | (go_at_call 115; (refine (C115.out _).mono ?_); rintro e w2 ⟨rfl, g2⟩; have HO2 := Lh (HO7.out.gr g2); have HO3 := Lh (HO8.out.gr g2); clear g2 C115)
        | (at_builtin; refine wpList_app_tri info_word rfl _ _ 74 rfl Tryz.underlying74 _ (ms.map rwd) rfl (HO2.out.gr (((Gr.refl w2).alloc (.cells #[.int .i64 2, .int .i64 0, .int .i64 0] 128)).alloc (.cells #[.int .i64 2, .int .i64 0, .int .i64 0] 128))) _ ((2 : Int), (0 : Int), (0 : Int)) rfl (box_tri3 (w2.alloc (.cells #[.int .i64 2, .int .i64 0, .int .i64 0] 128)) (2 : Int) (0 : Int) (0 : Int) (by simp)) HML.out ?_; intro v7' wS h7 g7; obtain ⟨z0, z1, z2⟩ := boxK (2 : Int) (0 : Int) (0 : Int) HO2.out g7; have H7 := Lh h7; have H8 := Lh (OwnL.other (HO3.out.gr (((Gr.refl w2).alloc (.cells #[.int .i64 2, .int .i64 0, .int .i64 0] 128)).alloc (.cells #[.int .i64 2, .int .i64 0, .int .i64 0] 128))) (HO2.out.gr (((Gr.refl w2).alloc (.cells #[.int .i64 2, .int .i64 0, .int .i64 0] 128)).alloc (.cells #[.int .i64 2, .int .i64 0, .int .i64 0] 128))).1 (by decide) (Nat.le_refl _) g7); clear h7 g7 HO3))
       have q1 : wS.cell? ⟨bq, kk, none⟩ = some (.int .i64 u) := (HCC.out _ H8.out kk (by have := HK.out; omega)).trans (by rw [HI0.out])
       have q2 : wS.cell? ⟨bq, k2, none⟩ = some (.int .i64 v) := (HCC.out _ H8.out k2 HK2.out).trans (by rw [HI1.out])
       refine Hg (fun w' => Gr wS w') 12 ?_
       have hS : Gr wS wS.drew := (Gr.refl wS).drew
       obtain ⟨wT, hw9⟩ : ∃ W9, wS.drew = W9 := ⟨_, rfl⟩
       rw [hw9] at hS ⊢
       clear hw9
       refine H12 0 1 2 3 4 5 6 7 8 9 10 11 (c2 q1 q2) hS ?_
       refine Hd ?_
       replace z0 := hS.cell z0
       have HG9 := Lh (H8.out.2.trans hS)
       have HS9 := Lh hS
       have hc9 : ∀ i, i < kk → (wT.alloc (.cells #[] 3)).cell? ⟨bq, 0 + i, none⟩ = some (.int .i64 (iv (pl.take kk) i)) := fun i hi => by
        rw [Nat.zero_add, iv_tk hi]
        exact ((Gr.refl wT).alloc _).cell (HCC.out _ (H8.out.gr hS) i (by have := HK.out; omega))
       have HC9 := Lh hc9
       have HL0 := Lh (OwnL.lit0 wT)
       have HKl := Lh (show kk = (pl.take kk).length by rw [List.length_take]; have := HK.out; omega)
       have HKb := Lh (show ([] : List Int).length + kk ≤ 1000000 by have := HK.out; have := HPl.out; simp; omega)
       have HKc := Lh (show ([] ++ pl.take kk).length + 1 ≤ 1000000 by have := HK.out; have := HPl.out; simp; omega)
       have HO7 := Lh (H7.out.gr hS)
       have e9 := w9.out
       clear hS q1 q2 z1 z2 hc9 e3 e4 j1 j1d j4 j5 i1 H7
       go_wp2_with (first
        | (at_builtin; refine wpList_cat_ints rfl _ _ rfl _ [] (pl.take kk) rfl HL0.out bq 0 kk _ rfl HKl.out HC9.out HKb.out ?_; intro v9 w4 h4 _; have H4L := Lh (h4.gr ((Gr.refl w4).alloc (.cells #[.int .i64 u] 3))); have hc2 : ∀ i, i < 1 → (w4.alloc (.cells #[.int .i64 u] 3)).cell? ⟨w4.heap.size, 0 + i, none⟩ = some (.int .i64 (iv [u] i)) := (fun i hi => by (obtain rfl : i = 0 := by omega); exact cell_new1 w4 _ 3); have HC2 := Lh hc2; clear hc2 h4 HL0)
        | (at_builtin; go_must (refine wpList_cat_ints rfl _ _ rfl _ ([] ++ pl.take kk) [u] rfl H4L.out w4.heap.size 0 1 1 rfl rfl HC2.out HKc.out ?_); intro v8' w5 h5 _; have HH5 := Lh h5; clear h5))
       go_roundw
       case rel => exact ⟨k + 1, Hlt.out, by first | rw [e9] | rfl, _, _, HPn, Lh (by rw [HMs.out]; exact HO7.out.gr HH5.out.2), Lh (HH5.out.base HG9.out)⟩
       case measure => first | (rw [e9]; exact RI.fall Hlt.out) | exact RI.fall Hlt.out
      have z9 : (u != v) = true := by simpa using he
      have HQ := Lh (HBad.out (by rw [HStep.out, HW.out, if_neg he]; rfl))
      clear HW HStep HBad HWd HMs
      clear he b1 b2 hu hv
      go_upto_region 21 with (first
       | (go_at_call 115; (refine (C115.out _).mono ?_); rintro e w2 ⟨rfl, g2⟩; have HO2 := Lh (HO7.out.gr g2); have HO3 := Lh (HO8.out.gr g2); clear g2 C115)
       | (at_builtin; refine wpList_app_tri info_word rfl _ _ 74 rfl Tryz.underlying74 _ (ms.map rwd) rfl (HO2.out.gr (((Gr.refl w2).alloc (.cells #[.int .i64 2, .int .i64 0, .int .i64 0] 128)).alloc (.cells #[.int .i64 2, .int .i64 0, .int .i64 0] 128))) _ ((2 : Int), (0 : Int), (0 : Int)) rfl (box_tri3 (w2.alloc (.cells #[.int .i64 2, .int .i64 0, .int .i64 0] 128)) (2 : Int) (0 : Int) (0 : Int) (by simp)) HML.out ?_; intro v7' wS h7 g7; obtain ⟨z0, z1, z2⟩ := boxK (2 : Int) (0 : Int) (0 : Int) HO2.out g7; have H7 := Lh h7; have H8 := Lh (OwnL.other (HO3.out.gr (((Gr.refl w2).alloc (.cells #[.int .i64 2, .int .i64 0, .int .i64 0] 128)).alloc (.cells #[.int .i64 2, .int .i64 0, .int .i64 0] 128))) (HO2.out.gr (((Gr.refl w2).alloc (.cells #[.int .i64 2, .int .i64 0, .int .i64 0] 128)).alloc (.cells #[.int .i64 2, .int .i64 0, .int .i64 0] 128))).1 (by decide) (Nat.le_refl _) g7); clear h7 g7 HO3))
      have q1 : wS.cell? ⟨bq, kk, none⟩ = some (.int .i64 u) := (HCC.out _ H8.out kk (by have := HK.out; omega)).trans (by rw [HI0.out])
      have q2 : wS.cell? ⟨bq, k2, none⟩ = some (.int .i64 v) := (HCC.out _ H8.out k2 HK2.out).trans (by rw [HI1.out])
      refine Hg (fun w' => Gr wS w') 12 ?_
      have hS : Gr wS wS.drew := (Gr.refl wS).drew
      obtain ⟨wT, hw9⟩ : ∃ W9, wS.drew = W9 := ⟨_, rfl⟩
      rw [hw9] at hS ⊢
      clear hw9
      refine H12 0 1 2 3 4 5 6 7 8 9 10 11 (c2 q1 q2) hS ?_
      refine Hd ?_
      replace z0 := hS.cell z0
      have HG9 := Lh (H8.out.2.trans hS)
      clear hS q1 q2 z1 z2
      go_wp2_with fail
      refine bodyPost_ret (v := .tuple #[.slice none 0 0, .int .i64 0, .bool false]) (by simp [results, Tryz.results82, go_sem]) rfl ?_
      exact ⟨none, 0, 0, 0, false, rfl, GB.out.trans (HG9.out), by rw [HQ.out]⟩
    | byy =>
     as_aux_lemma =>
      have hwl : ¬ pl.length < 2 → pl.length ≤ 12 := fun _ => HPl.out
      clear hwl
      by_cases hl0 : pl.length < 2
      ·have HQ := Lh (HBad.out (by rw [HStep.out]; unfold widW; simp only []; rw [if_pos hl0]; rfl))
       have C115 := Lh (fun W => show Calls Tryz.prog 115 #[.string (bA K), .int .i64 nt] W (fun e w' => e = .returned (.tuple #[.agg #[.int .i64 3, .int .i64 0, .int .i64 0], .bool true]) ∧ Gr W w') from (readWord_any K nt HH4.out.1 W).mono fun e w' ⟨a, b, c, ok, he, hg, hm⟩ => by
        rw [HWd.out] at hm
        obtain ⟨h1, h2⟩ := hm
        rw [show okP nt (.byy) = true from rfl] at h1
        obtain ⟨rfl, rfl, rfl⟩ := tri_eq h2
        exact ⟨by rw [he, h1], hg⟩)
       have j1 : (pl.length : Int) < 2 := by omega
       have j1d : decide ((pl.length : Int) < 2) = true := decide_eq_true j1
       have j1n : decide (pl.length < 2) = true := decide_eq_true hl0
       clear HStep HBad HWd hl0
       go_wp2_with (first
        | (go_at_call 115; (refine (C115.out _).mono ?_); rintro e w2 ⟨rfl, g2⟩; have HO2 := Lh (HO7.out.gr g2); have HO3 := Lh (HO8.out.gr g2); clear g2 C115)
        | (at_builtin; refine wpList_app_tri info_word rfl _ _ 74 rfl Tryz.underlying74 _ (ms.map rwd) rfl (HO2.out.gr (((Gr.refl w2).alloc (.cells #[.int .i64 3, .int .i64 0, .int .i64 0] 128)).alloc (.cells #[.int .i64 3, .int .i64 0, .int .i64 0] 128))) _ ((3 : Int), (0 : Int), (0 : Int)) rfl (box_tri3 (w2.alloc (.cells #[.int .i64 3, .int .i64 0, .int .i64 0] 128)) (3 : Int) (0 : Int) (0 : Int) (by simp)) HML.out ?_; intro v7' wS h7 g7; obtain ⟨z0, z1, z2⟩ := boxK (3 : Int) (0 : Int) (0 : Int) HO2.out g7; have H7 := Lh h7; have H8 := Lh (OwnL.other (HO3.out.gr (((Gr.refl w2).alloc (.cells #[.int .i64 3, .int .i64 0, .int .i64 0] 128)).alloc (.cells #[.int .i64 3, .int .i64 0, .int .i64 0] 128))) (HO2.out.gr (((Gr.refl w2).alloc (.cells #[.int .i64 3, .int .i64 0, .int .i64 0] 128)).alloc (.cells #[.int .i64 3, .int .i64 0, .int .i64 0] 128))).1 (by decide) (Nat.le_refl _) g7); clear h7 g7 HO3))
       refine bodyPost_ret (v := .tuple #[.slice none 0 0, .int .i64 0, .bool false]) (by simp [results, Tryz.results82, go_sem]) rfl ?_
       exact ⟨none, 0, 0, 0, false, rfl, GB.out.trans (H8.out.2), by rw [HQ.out]⟩
      have C115 := Lh (fun W => show Calls Tryz.prog 115 #[.string (bA K), .int .i64 nt] W (fun e w' => e = .returned (.tuple #[.agg #[.int .i64 3, .int .i64 0, .int .i64 0], .bool true]) ∧ Gr W w') from (readWord_any K nt HH4.out.1 W).mono fun e w' ⟨a, b, c, ok, he, hg, hm⟩ => by
       rw [HWd.out] at hm
       obtain ⟨h1, h2⟩ := hm
       rw [show okP nt (.byy) = true from rfl] at h1
       obtain ⟨rfl, rfl, rfl⟩ := tri_eq h2
       exact ⟨by rw [he, h1], hg⟩)
      obtain ⟨kk, hkk⟩ : ∃ kk, pl.length = kk + 2 := ⟨pl.length - 2, by omega⟩
      obtain ⟨bq, cq, e8, hc1, hc2, _⟩ := HO8.out.full (by omega)
      obtain ⟨rfl, _, rfl⟩ : a8 = some ⟨bq, 0, none⟩ ∧ pl.length = pl.length ∧ c8 = cq := by cases e8; exact ⟨rfl, rfl, rfl⟩
      clear e8
      have HCC := Lh (show ∀ W, OwnL wB W (.slice (some ⟨bq, 0, none⟩) pl.length c8) pl → ∀ i, i < pl.length → W.cell? ⟨bq, i, none⟩ = some (.int .i64 (iv pl i)) from fun W hO i hi => by
       obtain ⟨b2, cc2, e2, _, _, h⟩ := hO.full (by omega)
       cases e2
       exact h i hi)
      have b1 := H14.out.at (i := kk) (by omega)
      have b2 := H14.out.at (i := kk + 1) (by omega)
      have HW := Lh (show widW (wsOf Ts) (.byy) pl = _ by unfold widW; simp only []; rw [if_neg (show ¬ pl.length < 2 by omega), hkk])
      rw [show kk + 2 - 2 = kk by omega, show kk + 2 - 1 = kk + 1 by omega] at HW
      have e1 : wrap64 ((pl.length : Int) - 2) = (kk : Int) := by rw [IntWalk.wrap64_in _ (by have := HPl.out; omega)]; omega
      have e2 : IntKind.i64.wrap ((pl.length : Int) - 2) = (kk : Int) := by rw [IntWalk.i64_in _ (by have := HPl.out; omega)]; omega
      obtain ⟨k2, hk2⟩ : ∃ k2, kk + 1 = k2 := ⟨_, rfl⟩
      have e3 : wrap64 ((pl.length : Int) - 1) = (k2 : Int) := by rw [IntWalk.wrap64_in _ (by have := HPl.out; omega)]; omega
      have e4 : IntKind.i64.wrap ((pl.length : Int) - 1) = (k2 : Int) := by rw [IntWalk.i64_in _ (by have := HPl.out; omega)]; omega
      have j5 : (k2 : Int) < (pl.length : Int) := by omega
      have j1 : ¬ (pl.length : Int) < 2 := by omega
      have j1d : decide ((pl.length : Int) < 2) = false := decide_eq_false j1
      have j1n : decide (pl.length < 2) = false := decide_eq_false (by omega)
      have j2 : (kk : Int) ≤ (pl.length : Int) := by omega
      have j3 : (kk : Int) ≤ (c8 : Int) := by omega
      have j4 : (kk : Int) < (pl.length : Int) := by omega
      have HK := Lh hkk
      have HI0 := Lh (show iv pl kk = pl.getD kk 0 from rfl)
      have HI1 := Lh (show iv pl k2 = pl.getD (kk + 1) 0 by rw [hk2]; rfl)
      have HK2 := Lh (show k2 < pl.length by omega)
      clear hk2
      generalize hu : pl.getD kk 0 = u at *
      generalize hv : pl.getD (kk + 1) 0 = v at *
      clear hkk hc1 hc2
      clear hl0
      obtain ⟨t1, ht1⟩ : ∃ t1, u + v = t1 := ⟨_, rfl⟩
      obtain ⟨t, ht⟩ : ∃ t, t1 - 1 = t := ⟨_, rfl⟩
      have f1 : wrap64 (u + v) = t1 := (IntWalk.wrap64_in _ (by omega)).trans ht1
      have f2 : IntKind.i64.wrap (u + v) = t1 := (IntWalk.i64_in _ (by omega)).trans ht1
      have f3 : wrap64 (t1 - 1) = t := (IntWalk.wrap64_in _ (by omega)).trans ht
      have f4 : IntKind.i64.wrap (t1 - 1) = t := (IntWalk.i64_in _ (by omega)).trans ht
      rw [show u + v - 1 = t by omega] at HW
      clear ht1 ht
      by_cases he : t ≤ 4
      ·have z8 : decide (4 < t) = false := decide_eq_false (by omega)
       have z7 : ¬ 4 < t := by omega
       have HPn := Lh (show planQ (wsOf Ts) (KS.take (k + 1)) [] = some (ms ++ [.byy], pl.take kk ++ [t]) by rw [HStep.out, HW.out, if_pos he]; rfl)
       clear HW HStep HBad HWd
       clear he b1 b2 hu hv
       go_upto_region 21 with (first
        | (go_at_call 115; (refine (C115.out _).mono ?_); rintro e w2 ⟨rfl, g2⟩; have HO2 := Lh (HO7.out.gr g2); have HO3 := Lh (HO8.out.gr g2); clear g2 C115)
        | (at_builtin; refine wpList_app_tri info_word rfl _ _ 74 rfl Tryz.underlying74 _ (ms.map rwd) rfl (HO2.out.gr (((Gr.refl w2).alloc (.cells #[.int .i64 3, .int .i64 0, .int .i64 0] 128)).alloc (.cells #[.int .i64 3, .int .i64 0, .int .i64 0] 128))) _ ((3 : Int), (0 : Int), (0 : Int)) rfl (box_tri3 (w2.alloc (.cells #[.int .i64 3, .int .i64 0, .int .i64 0] 128)) (3 : Int) (0 : Int) (0 : Int) (by simp)) HML.out ?_; intro v7' wS h7 g7; obtain ⟨z0, z1, z2⟩ := boxK (3 : Int) (0 : Int) (0 : Int) HO2.out g7; have H7 := Lh h7; have H8 := Lh (OwnL.other (HO3.out.gr (((Gr.refl w2).alloc (.cells #[.int .i64 3, .int .i64 0, .int .i64 0] 128)).alloc (.cells #[.int .i64 3, .int .i64 0, .int .i64 0] 128))) (HO2.out.gr (((Gr.refl w2).alloc (.cells #[.int .i64 3, .int .i64 0, .int .i64 0] 128)).alloc (.cells #[.int .i64 3, .int .i64 0, .int .i64 0] 128))).1 (by decide) (Nat.le_refl _) g7); clear h7 g7 HO3))
       have q1 : wS.cell? ⟨bq, kk, none⟩ = some (.int .i64 u) := (HCC.out _ H8.out kk (by have := HK.out; omega)).trans (by rw [HI0.out])
       have q2 : wS.cell? ⟨bq, k2, none⟩ = some (.int .i64 v) := (HCC.out _ H8.out k2 HK2.out).trans (by rw [HI1.out])
       refine Hg (fun w' => Gr wS w') 12 ?_
       have hS : Gr wS wS.drew := (Gr.refl wS).drew
       obtain ⟨wT, hw9⟩ : ∃ W9, wS.drew = W9 := ⟨_, rfl⟩
       rw [hw9] at hS ⊢
       clear hw9
       refine H12 0 1 2 3 4 5 6 7 8 9 10 11 (c2 q1 q2) hS ?_
       refine Hd ?_
       replace z0 := hS.cell z0
       have HG9 := Lh (H8.out.2.trans hS)
       have HS9 := Lh hS
       have hc9 : ∀ i, i < kk → (wT.alloc (.cells #[] 3)).cell? ⟨bq, 0 + i, none⟩ = some (.int .i64 (iv (pl.take kk) i)) := fun i hi => by
        rw [Nat.zero_add, iv_tk hi]
        exact ((Gr.refl wT).alloc _).cell (HCC.out _ (H8.out.gr hS) i (by have := HK.out; omega))
       have HC9 := Lh hc9
       have HL0 := Lh (OwnL.lit0 wT)
       have HKl := Lh (show kk = (pl.take kk).length by rw [List.length_take]; have := HK.out; omega)
       have HKb := Lh (show ([] : List Int).length + kk ≤ 1000000 by have := HK.out; have := HPl.out; simp; omega)
       have HKc := Lh (show ([] ++ pl.take kk).length + 1 ≤ 1000000 by have := HK.out; have := HPl.out; simp; omega)
       have HO7 := Lh (H7.out.gr hS)
       have e9 := w9.out
       clear hS q1 q2 z1 z2 hc9 e3 e4 j1 j1d j4 j5 i1 H7
       go_wp2_with (first
        | (at_builtin; refine wpList_cat_ints rfl _ _ rfl _ [] (pl.take kk) rfl HL0.out bq 0 kk _ rfl HKl.out HC9.out HKb.out ?_; intro v9 w4 h4 _; have H4L := Lh (h4.gr ((Gr.refl w4).alloc (.cells #[.int .i64 t] 3))); have hc2 : ∀ i, i < 1 → (w4.alloc (.cells #[.int .i64 t] 3)).cell? ⟨w4.heap.size, 0 + i, none⟩ = some (.int .i64 (iv [t] i)) := (fun i hi => by (obtain rfl : i = 0 := by omega); exact cell_new1 w4 _ 3); have HC2 := Lh hc2; clear hc2 h4 HL0)
        | (at_builtin; go_must (refine wpList_cat_ints rfl _ _ rfl _ ([] ++ pl.take kk) [t] rfl H4L.out w4.heap.size 0 1 1 rfl rfl HC2.out HKc.out ?_); intro v8' w5 h5 _; have HH5 := Lh h5; clear h5))
       go_roundw
       case rel => exact ⟨k + 1, Hlt.out, by first | rw [e9] | rfl, _, _, HPn, Lh (by rw [HMs.out]; exact HO7.out.gr HH5.out.2), Lh (HH5.out.base HG9.out)⟩
       case measure => first | (rw [e9]; exact RI.fall Hlt.out) | exact RI.fall Hlt.out
      have z8 : decide (4 < t) = true := decide_eq_true (by omega)
      have z7 : 4 < t := by omega
      have HQ := Lh (HBad.out (by rw [HStep.out, HW.out, if_neg he]; rfl))
      clear HW HStep HBad HWd HMs
      clear he b1 b2 hu hv
      go_upto_region 21 with (first
       | (go_at_call 115; (refine (C115.out _).mono ?_); rintro e w2 ⟨rfl, g2⟩; have HO2 := Lh (HO7.out.gr g2); have HO3 := Lh (HO8.out.gr g2); clear g2 C115)
       | (at_builtin; refine wpList_app_tri info_word rfl _ _ 74 rfl Tryz.underlying74 _ (ms.map rwd) rfl (HO2.out.gr (((Gr.refl w2).alloc (.cells #[.int .i64 3, .int .i64 0, .int .i64 0] 128)).alloc (.cells #[.int .i64 3, .int .i64 0, .int .i64 0] 128))) _ ((3 : Int), (0 : Int), (0 : Int)) rfl (box_tri3 (w2.alloc (.cells #[.int .i64 3, .int .i64 0, .int .i64 0] 128)) (3 : Int) (0 : Int) (0 : Int) (by simp)) HML.out ?_; intro v7' wS h7 g7; obtain ⟨z0, z1, z2⟩ := boxK (3 : Int) (0 : Int) (0 : Int) HO2.out g7; have H7 := Lh h7; have H8 := Lh (OwnL.other (HO3.out.gr (((Gr.refl w2).alloc (.cells #[.int .i64 3, .int .i64 0, .int .i64 0] 128)).alloc (.cells #[.int .i64 3, .int .i64 0, .int .i64 0] 128))) (HO2.out.gr (((Gr.refl w2).alloc (.cells #[.int .i64 3, .int .i64 0, .int .i64 0] 128)).alloc (.cells #[.int .i64 3, .int .i64 0, .int .i64 0] 128))).1 (by decide) (Nat.le_refl _) g7); clear h7 g7 HO3))
      have q1 : wS.cell? ⟨bq, kk, none⟩ = some (.int .i64 u) := (HCC.out _ H8.out kk (by have := HK.out; omega)).trans (by rw [HI0.out])
      have q2 : wS.cell? ⟨bq, k2, none⟩ = some (.int .i64 v) := (HCC.out _ H8.out k2 HK2.out).trans (by rw [HI1.out])
      refine Hg (fun w' => Gr wS w') 12 ?_
      have hS : Gr wS wS.drew := (Gr.refl wS).drew
      obtain ⟨wT, hw9⟩ : ∃ W9, wS.drew = W9 := ⟨_, rfl⟩
      rw [hw9] at hS ⊢
      clear hw9
      refine H12 0 1 2 3 4 5 6 7 8 9 10 11 (c2 q1 q2) hS ?_
      refine Hd ?_
      replace z0 := hS.cell z0
      have HG9 := Lh (H8.out.2.trans hS)
      clear hS q1 q2 z1 z2
      go_wp2_with fail
      refine bodyPost_ret (v := .tuple #[.slice none 0 0, .int .i64 0, .bool false]) (by simp [results, Tryz.results82, go_sem]) rfl ?_
      exact ⟨none, 0, 0, 0, false, rfl, GB.out.trans (HG9.out), by rw [HQ.out]⟩
    | drop i =>
     as_aux_lemma =>
      have hwl : ¬ pl.length < 1 → pl.length ≤ 12 := fun _ => HPl.out
      clear hwl
      by_cases hl0 : pl.length < 1
      ·have HQ := Lh (HBad.out (by rw [HStep.out]; unfold widW; simp only []; rw [if_pos hl0]; rfl))
       have C115 := Lh (fun W => show Calls Tryz.prog 115 #[.string (bA K), .int .i64 nt] W (fun e w' => e = .returned (.tuple #[.agg #[.int .i64 4, .int .i64 (i : Int), .int .i64 0], .bool true]) ∧ Gr W w') from (readWord_any K nt HH4.out.1 W).mono fun e w' ⟨a, b, c, ok, he, hg, hm⟩ => by
        rw [HWd.out] at hm
        obtain ⟨h1, h2⟩ := hm
        rw [show okP nt (.drop i) = true from rfl] at h1
        obtain ⟨rfl, rfl, rfl⟩ := tri_eq h2
        exact ⟨by rw [he, h1], hg⟩)
       have j1 : (pl.length : Int) < 1 := by omega
       have j1d : decide ((pl.length : Int) < 1) = true := decide_eq_true j1
       have j1n : decide (pl.length < 1) = true := decide_eq_true hl0
       clear HStep HBad HWd hl0
       go_upto_region 30 with (first
        | (go_at_call 115; (refine (C115.out _).mono ?_); rintro e w2 ⟨rfl, g2⟩; have HO2 := Lh (HO7.out.gr g2); have HO3 := Lh (HO8.out.gr g2); clear g2 C115)
        | (at_builtin; refine wpList_app_tri info_word rfl _ _ 74 rfl Tryz.underlying74 _ (ms.map rwd) rfl (HO2.out.gr (((Gr.refl w2).alloc (.cells #[.int .i64 4, .int .i64 (i : Int), .int .i64 0] 128)).alloc (.cells #[.int .i64 4, .int .i64 (i : Int), .int .i64 0] 128))) _ ((4 : Int), (i : Int), (0 : Int)) rfl (box_tri3 (w2.alloc (.cells #[.int .i64 4, .int .i64 (i : Int), .int .i64 0] 128)) (4 : Int) (i : Int) (0 : Int) (by simp)) HML.out ?_; intro v7' wS h7 g7; obtain ⟨z0, z1, z2⟩ := boxK (4 : Int) (i : Int) (0 : Int) HO2.out g7; have H7 := Lh h7; have H8 := Lh (OwnL.other (HO3.out.gr (((Gr.refl w2).alloc (.cells #[.int .i64 4, .int .i64 (i : Int), .int .i64 0] 128)).alloc (.cells #[.int .i64 4, .int .i64 (i : Int), .int .i64 0] 128))) (HO2.out.gr (((Gr.refl w2).alloc (.cells #[.int .i64 4, .int .i64 (i : Int), .int .i64 0] 128)).alloc (.cells #[.int .i64 4, .int .i64 (i : Int), .int .i64 0] 128))).1 (by decide) (Nat.le_refl _) g7); clear h7 g7 HO3))
       refine Hg (fun w' => Gr wS w') 40 ?_
       have hS : Gr wS wS.drew := (Gr.refl wS).drew
       obtain ⟨wT, hw9⟩ : ∃ W9, wS.drew = W9 := ⟨_, rfl⟩
       rw [hw9] at hS ⊢
       clear hw9
       refine H3 0 1 2 (c1 z0) hS ?_; refine Hs8 3 4 5 6 7 8 9 10 hS ?_; refine H2 11 12 (c1 z0) hS ?_; refine Hs8 13 14 15 16 17 18 19 20 hS ?_; refine Hs4 21 22 23 24 hS ?_; refine Hs1 25 hS ?_; refine H2 26 27 (c1 z0) hS ?_; refine Hs8 28 29 30 31 32 33 34 35 hS ?_; refine Hs2 36 37 hS ?_; refine Hs1 38 hS ?_; refine H1 39 (c1 z0) hS ?_
       refine Hd ?_
       have HG9 := Lh (H8.out.2.trans hS)
       clear hS
       go_wp2_with fail
       refine bodyPost_ret (v := .tuple #[.slice none 0 0, .int .i64 0, .bool false]) (by simp [results, Tryz.results82, go_sem]) rfl ?_
       exact ⟨none, 0, 0, 0, false, rfl, GB.out.trans (HG9.out), by rw [HQ.out]⟩
      have C115 := Lh (fun W => show Calls Tryz.prog 115 #[.string (bA K), .int .i64 nt] W (fun e w' => e = .returned (.tuple #[.agg #[.int .i64 4, .int .i64 (i : Int), .int .i64 0], .bool true]) ∧ Gr W w') from (readWord_any K nt HH4.out.1 W).mono fun e w' ⟨a, b, c, ok, he, hg, hm⟩ => by
       rw [HWd.out] at hm
       obtain ⟨h1, h2⟩ := hm
       rw [show okP nt (.drop i) = true from rfl] at h1
       obtain ⟨rfl, rfl, rfl⟩ := tri_eq h2
       exact ⟨by rw [he, h1], hg⟩)
      obtain ⟨kk, hkk⟩ : ∃ kk, pl.length = kk + 1 := ⟨pl.length - 1, by omega⟩
      obtain ⟨bq, cq, e8, hc1, hc2, _⟩ := HO8.out.full (by omega)
      obtain ⟨rfl, _, rfl⟩ : a8 = some ⟨bq, 0, none⟩ ∧ pl.length = pl.length ∧ c8 = cq := by cases e8; exact ⟨rfl, rfl, rfl⟩
      clear e8
      have HCC := Lh (show ∀ W, OwnL wB W (.slice (some ⟨bq, 0, none⟩) pl.length c8) pl → ∀ i, i < pl.length → W.cell? ⟨bq, i, none⟩ = some (.int .i64 (iv pl i)) from fun W hO i hi => by
       obtain ⟨b2, cc2, e2, _, _, h⟩ := hO.full (by omega)
       cases e2
       exact h i hi)
      have b1 := H14.out.at (i := kk) (by omega)
      have HW := Lh (show widW (wsOf Ts) (.drop i) pl = _ by unfold widW; simp only []; rw [if_neg (show ¬ pl.length < 1 by omega), hkk])
      rw [show kk + 1 - 1 = kk by omega] at HW
      have e1 : wrap64 ((pl.length : Int) - 1) = (kk : Int) := by rw [IntWalk.wrap64_in _ (by have := HPl.out; omega)]; omega
      have e2 : IntKind.i64.wrap ((pl.length : Int) - 1) = (kk : Int) := by rw [IntWalk.i64_in _ (by have := HPl.out; omega)]; omega
      have j1 : ¬ (pl.length : Int) < 1 := by omega
      have j1d : decide ((pl.length : Int) < 1) = false := decide_eq_false j1
      have j1n : decide (pl.length < 1) = false := decide_eq_false (by omega)
      have j2 : (kk : Int) ≤ (pl.length : Int) := by omega
      have j3 : (kk : Int) ≤ (c8 : Int) := by omega
      have j4 : (kk : Int) < (pl.length : Int) := by omega
      have HK := Lh hkk
      have HI0 := Lh (show iv pl kk = pl.getD kk 0 from rfl)
      generalize hu : pl.getD kk 0 = u at *
      clear hkk hc1 hc2
      clear hl0
      by_cases h1 : (i : Int) < u
      ·have z1d : decide (u ≤ (i : Int)) = false := decide_eq_false (by omega)
       by_cases h2 : 1 < u
       ·have z2d : decide (u < 2) = false := decide_eq_false (by omega)
        obtain ⟨u1, hu1⟩ : ∃ u1, u - 1 = u1 := ⟨_, rfl⟩
        have f1 : wrap64 (u - 1) = u1 := (IntWalk.wrap64_in _ (by omega)).trans hu1
        have f2 : IntKind.i64.wrap (u - 1) = u1 := (IntWalk.i64_in _ (by omega)).trans hu1
        rw [hu1] at HW
        clear hu1
        have HPn := Lh (show planQ (wsOf Ts) (KS.take (k + 1)) [] = some (ms ++ [.drop i], pl.take kk ++ [u1]) by rw [HStep.out, HW.out, if_pos ⟨h1, h2⟩]; rfl)
        clear HW HStep HBad HWd
        clear h1 h2 b1 hu
        go_upto_region 30 with (first
         | (go_at_call 115; (refine (C115.out _).mono ?_); rintro e w2 ⟨rfl, g2⟩; have HO2 := Lh (HO7.out.gr g2); have HO3 := Lh (HO8.out.gr g2); clear g2 C115)
         | (at_builtin; refine wpList_app_tri info_word rfl _ _ 74 rfl Tryz.underlying74 _ (ms.map rwd) rfl (HO2.out.gr (((Gr.refl w2).alloc (.cells #[.int .i64 4, .int .i64 (i : Int), .int .i64 0] 128)).alloc (.cells #[.int .i64 4, .int .i64 (i : Int), .int .i64 0] 128))) _ ((4 : Int), (i : Int), (0 : Int)) rfl (box_tri3 (w2.alloc (.cells #[.int .i64 4, .int .i64 (i : Int), .int .i64 0] 128)) (4 : Int) (i : Int) (0 : Int) (by simp)) HML.out ?_; intro v7' wS h7 g7; obtain ⟨z0, z1, z2⟩ := boxK (4 : Int) (i : Int) (0 : Int) HO2.out g7; have H7 := Lh h7; have H8 := Lh (OwnL.other (HO3.out.gr (((Gr.refl w2).alloc (.cells #[.int .i64 4, .int .i64 (i : Int), .int .i64 0] 128)).alloc (.cells #[.int .i64 4, .int .i64 (i : Int), .int .i64 0] 128))) (HO2.out.gr (((Gr.refl w2).alloc (.cells #[.int .i64 4, .int .i64 (i : Int), .int .i64 0] 128)).alloc (.cells #[.int .i64 4, .int .i64 (i : Int), .int .i64 0] 128))).1 (by decide) (Nat.le_refl _) g7); clear h7 g7 HO3))
        have q1 : wS.cell? ⟨bq, kk, none⟩ = some (.int .i64 u) := (HCC.out _ H8.out kk (by have := HK.out; omega)).trans (by rw [HI0.out])
        refine Hg (fun w' => Gr wS w') 40 ?_
        have hS : Gr wS wS.drew := (Gr.refl wS).drew
        obtain ⟨wT, hw9⟩ : ∃ W9, wS.drew = W9 := ⟨_, rfl⟩
        rw [hw9] at hS ⊢
        clear hw9
        refine H12 0 1 2 3 4 5 6 7 8 9 10 11 (c4 z0 z1 z2 q1) hS ?_; refine H5 12 13 14 15 16 (c4 z0 z1 z2 q1) hS ?_; refine Hs8 17 18 19 20 21 22 23 24 hS ?_; refine H12 25 26 27 28 29 30 31 32 33 34 35 36 (c4 z0 z1 z2 q1) hS ?_; refine H3 37 38 39 (c4 z0 z1 z2 q1) hS ?_
        refine Hd ?_
        replace z0 := hS.cell z0
        have HG9 := Lh (H8.out.2.trans hS)
        have HO7 := Lh (H7.out.gr hS)
        have q1 := hS.cell q1
        have HC8 := Lh (fun W (g : Gr wT W) => show ∀ i, i < kk → W.cell? ⟨bq, 0 + i, none⟩ = some (.int .i64 (iv (pl.take kk) i)) from fun i hi => by
         rw [Nat.zero_add, iv_tk hi]
         exact HCC.out _ (H8.out.gr (hS.trans g)) i (by have := HK.out; omega))
        have HKl := Lh (show kk = (pl.take kk).length by rw [List.length_take]; have := HK.out; omega)
        have HKb := Lh (show ([] : List Int).length + kk ≤ 1000000 by have := HK.out; have := HPl.out; simp; omega)
        have HKc := Lh (show ([] ++ pl.take kk).length + 1 ≤ 1000000 by have := HK.out; have := HPl.out; simp; omega)
        have e9 := w9.out
        clear hS z1 z2 i1 H7
        go_upto_region 33 with fail
        refine Hg (fun w' => Gr wT w') 15 ?_
        have hS : Gr wT wT.drew := (Gr.refl wT).drew
        obtain ⟨wU, hw9⟩ : ∃ W9, wT.drew = W9 := ⟨_, rfl⟩
        rw [hw9] at hS ⊢
        clear hw9
        refine H5 1 2 3 4 6 (c1 q1) hS ?_; refine H5 7 8 9 10 11 (c1 q1) hS ?_
        refine Hq [0, 12] ?_
        refine Hc (fun K9 hK => ?_) ?_
        ·obtain ⟨wY, hY⟩ : ∃ W9, wU.alloc (.cells #[] 3) = W9 := ⟨_, rfl⟩
         go_simp
         try rw [hY]
         have gY : Gr wU wY := hY ▸ (Gr.refl wU).alloc _
         have H0 := Lh (hY ▸ OwnL.lit0 wU : OwnL wU wY (.slice (some ⟨wU.heap.size, 0, none⟩) 0 0) [])
         have HGb := Lh hS
         have hS : Gr wT wY := hS.trans gY
         refine hK.out _ _ hS ?_
         clear hK K9 hY
         refine Hq [5, 12] ?_
         refine Hc (fun K9 hK => ?_) ?_
         ·refine wpIn_cat_ints _ _ rfl _ [] (pl.take kk) rfl H0.out bq 0 kk _ rfl HKl.out (HC8.out _ hS) HKb.out ?_
          intro v9 wZ h4 g4
          have H9 := Lh h4
          have hS : Gr wT wZ := HGb.out.trans h4.2
          clear h4 g4
          refine hK.out _ _ hS ?_
          clear hK K9
          refine Hq [12] ?_
          refine Hc (fun K9 hK => ?_) ?_
          ·obtain ⟨wV, hY⟩ : ∃ W9, wZ.alloc (.cells #[.int .i64 u1] 3) = W9 := ⟨_, rfl⟩
           go_simp
           try rw [hY]
           have gY : Gr wZ wV := hY ▸ (Gr.refl wZ).alloc _
           have HSz := Lh (show wZ.heap.size < wV.heap.size by rw [← hY]; simp)
           have HC2 := Lh (hY ▸ lit1_at wZ u1 : ∀ i, i < 1 → wV.cell? ⟨wZ.heap.size, 0 + i, none⟩ = some (.int .i64 (iv [u1] i)))
           have hS : Gr wT wV := hS.trans gY
           refine hK.out _ _ hS ?_
           clear hK K9 hY
           have H9 := Lh (H9.out.gr gY)
           refine Hq [13] ?_
           refine Hc (fun K9 hK => ?_) ?_
           ·refine wpIn_cat_ints _ _ rfl _ ([] ++ pl.take kk) [u1] rfl H9.out wZ.heap.size 0 1 1 rfl rfl HC2.out HKc.out ?_
            intro v8' w5 h5 _
            have hS : Gr wT w5 := HGb.out.trans h5.2
            have HH5 := Lh h5
            clear h5
            refine hK.out _ _ hS ?_
            clear hK K9
            refine Hq [14] ?_
            refine Hc (fun K9 hK => ?_) ?_
            ·go_simp
             refine hK.out _ _ hS ?_
             clear hK K9
             refine Hd ?_
             clear hS
             go_wp2_with fail
             go_roundw
             case rel => exact ⟨k + 1, Hlt.out, by first | rw [e9] | rfl, _, _, HPn, Lh (by rw [HMs.out]; exact HO7.out.gr (HGb.out.trans HH5.out.2)), Lh (HH5.out.base (HG9.out.trans HGb.out))⟩
             case measure => first | (rw [e9]; exact RI.fall Hlt.out) | exact RI.fall Hlt.out
            exact AllHIn.nil
           exact AllHIn.nil
          exact AllHIn.nil
         refine Hc (fun K9 hK => ?_) ?_
         ·obtain ⟨wZ, hY⟩ : ∃ W9, wY.alloc (.cells #[.int .i64 u1] 3) = W9 := ⟨_, rfl⟩
          go_simp
          try rw [hY]
          have gY : Gr wY wZ := hY ▸ (Gr.refl wY).alloc _
          have HSz := Lh (show wY.heap.size < wZ.heap.size by rw [← hY]; simp)
          have HC2 := Lh (hY ▸ lit1_at wY u1 : ∀ i, i < 1 → wZ.cell? ⟨wY.heap.size, 0 + i, none⟩ = some (.int .i64 (iv [u1] i)))
          have hS : Gr wT wZ := hS.trans gY
          refine hK.out _ _ hS ?_
          clear hK K9 hY
          have H0p := H0
          have H0 := Lh (H0.out.gr gY)
          refine Hq [5] ?_
          refine Hc (fun K9 hK => ?_) ?_
          ·refine wpIn_cat_ints _ _ rfl _ [] (pl.take kk) rfl H0.out bq 0 kk _ rfl HKl.out (HC8.out _ hS) HKb.out ?_
           intro v9 wV h4 g4
           have H9 := Lh h4
           have HC2 := Lh (fun i (hi : i < 1) => OwnL.keep H0p.out g4 (Nat.le_refl _) (HC2.out i hi))
           have hS : Gr wT wV := HGb.out.trans h4.2
           clear h4 g4
           refine hK.out _ _ hS ?_
           clear hK K9
           refine Hq [13] ?_
           refine Hc (fun K9 hK => ?_) ?_
           ·refine wpIn_cat_ints _ _ rfl _ ([] ++ pl.take kk) [u1] rfl H9.out wY.heap.size 0 1 1 rfl rfl HC2.out HKc.out ?_
            intro v8' w5 h5 _
            have hS : Gr wT w5 := HGb.out.trans h5.2
            have HH5 := Lh h5
            clear h5
            refine hK.out _ _ hS ?_
            clear hK K9
            refine Hq [14] ?_
            refine Hc (fun K9 hK => ?_) ?_
            ·go_simp
             refine hK.out _ _ hS ?_
             clear hK K9
             refine Hd ?_
             clear hS
             go_wp2_with fail
             go_roundw
             case rel => exact ⟨k + 1, Hlt.out, by first | rw [e9] | rfl, _, _, HPn, Lh (by rw [HMs.out]; exact HO7.out.gr (HGb.out.trans HH5.out.2)), Lh (HH5.out.base (HG9.out.trans HGb.out))⟩
             case measure => first | (rw [e9]; exact RI.fall Hlt.out) | exact RI.fall Hlt.out
            exact AllHIn.nil
           exact AllHIn.nil
          exact AllHIn.nil
         exact AllHIn.nil
        refine Hc (fun K9 hK => ?_) ?_
        ·obtain ⟨wY, hY⟩ : ∃ W9, wU.alloc (.cells #[.int .i64 u1] 3) = W9 := ⟨_, rfl⟩
         go_simp
         try rw [hY]
         have gY : Gr wU wY := hY ▸ (Gr.refl wU).alloc _
         have HSz := Lh (show wU.heap.size < wY.heap.size by rw [← hY]; simp)
         have HC2 := Lh (hY ▸ lit1_at wU u1 : ∀ i, i < 1 → wY.cell? ⟨wU.heap.size, 0 + i, none⟩ = some (.int .i64 (iv [u1] i)))
         have hS : Gr wT wY := hS.trans gY
         refine hK.out _ _ hS ?_
         clear hK K9 hY
         refine Hq [0] ?_
         refine Hc (fun K9 hK => ?_) ?_
         ·obtain ⟨wZ, hY⟩ : ∃ W9, wY.alloc (.cells #[] 3) = W9 := ⟨_, rfl⟩
          go_simp
          try rw [hY]
          have gY : Gr wY wZ := hY ▸ (Gr.refl wY).alloc _
          have H0 := Lh (hY ▸ OwnL.lit0 wY : OwnL wY wZ (.slice (some ⟨wY.heap.size, 0, none⟩) 0 0) [])
          have HGb := Lh hS
          have hS : Gr wT wZ := hS.trans gY
          refine hK.out _ _ hS ?_
          clear hK K9 hY
          have HC2 := Lh (fun i (hi : i < 1) => gY.cell (HC2.out i hi))
          refine Hq [5] ?_
          refine Hc (fun K9 hK => ?_) ?_
          ·refine wpIn_cat_ints _ _ rfl _ [] (pl.take kk) rfl H0.out bq 0 kk _ rfl HKl.out (HC8.out _ hS) HKb.out ?_
           intro v9 wV h4 g4
           have H9 := Lh h4
           have HC2 := Lh (fun i (hi : i < 1) => g4.cell (HC2.out i hi) (fun e => absurd (H0.out.1.lt _ e.symm).1 (by have := HSz.out; dsimp only; omega)))
           have hS : Gr wT wV := HGb.out.trans h4.2
           clear h4 g4
           refine hK.out _ _ hS ?_
           clear hK K9
           refine Hq [13] ?_
           refine Hc (fun K9 hK => ?_) ?_
           ·refine wpIn_cat_ints _ _ rfl _ ([] ++ pl.take kk) [u1] rfl H9.out wU.heap.size 0 1 1 rfl rfl HC2.out HKc.out ?_
            intro v8' w5 h5 _
            have hS : Gr wT w5 := HGb.out.trans h5.2
            have HH5 := Lh h5
            clear h5
            refine hK.out _ _ hS ?_
            clear hK K9
            refine Hq [14] ?_
            refine Hc (fun K9 hK => ?_) ?_
            ·go_simp
             refine hK.out _ _ hS ?_
             clear hK K9
             refine Hd ?_
             clear hS
             go_wp2_with fail
             go_roundw
             case rel => exact ⟨k + 1, Hlt.out, by first | rw [e9] | rfl, _, _, HPn, Lh (by rw [HMs.out]; exact HO7.out.gr (HGb.out.trans HH5.out.2)), Lh (HH5.out.base (HG9.out.trans HGb.out))⟩
             case measure => first | (rw [e9]; exact RI.fall Hlt.out) | exact RI.fall Hlt.out
            exact AllHIn.nil
           exact AllHIn.nil
          exact AllHIn.nil
         exact AllHIn.nil
        exact AllHIn.nil
       have z2d : decide (u < 2) = true := decide_eq_true (by omega)
       have HQ := Lh (HBad.out (by rw [HStep.out, HW.out, if_neg (fun e => h2 e.2)]; rfl))
       clear HW HStep HBad HWd HMs
       clear h1 h2 b1 hu
       go_upto_region 30 with (first
        | (go_at_call 115; (refine (C115.out _).mono ?_); rintro e w2 ⟨rfl, g2⟩; have HO2 := Lh (HO7.out.gr g2); have HO3 := Lh (HO8.out.gr g2); clear g2 C115)
        | (at_builtin; refine wpList_app_tri info_word rfl _ _ 74 rfl Tryz.underlying74 _ (ms.map rwd) rfl (HO2.out.gr (((Gr.refl w2).alloc (.cells #[.int .i64 4, .int .i64 (i : Int), .int .i64 0] 128)).alloc (.cells #[.int .i64 4, .int .i64 (i : Int), .int .i64 0] 128))) _ ((4 : Int), (i : Int), (0 : Int)) rfl (box_tri3 (w2.alloc (.cells #[.int .i64 4, .int .i64 (i : Int), .int .i64 0] 128)) (4 : Int) (i : Int) (0 : Int) (by simp)) HML.out ?_; intro v7' wS h7 g7; obtain ⟨z0, z1, z2⟩ := boxK (4 : Int) (i : Int) (0 : Int) HO2.out g7; have H7 := Lh h7; have H8 := Lh (OwnL.other (HO3.out.gr (((Gr.refl w2).alloc (.cells #[.int .i64 4, .int .i64 (i : Int), .int .i64 0] 128)).alloc (.cells #[.int .i64 4, .int .i64 (i : Int), .int .i64 0] 128))) (HO2.out.gr (((Gr.refl w2).alloc (.cells #[.int .i64 4, .int .i64 (i : Int), .int .i64 0] 128)).alloc (.cells #[.int .i64 4, .int .i64 (i : Int), .int .i64 0] 128))).1 (by decide) (Nat.le_refl _) g7); clear h7 g7 HO3))
       have q1 : wS.cell? ⟨bq, kk, none⟩ = some (.int .i64 u) := (HCC.out _ H8.out kk (by have := HK.out; omega)).trans (by rw [HI0.out])
       refine Hg (fun w' => Gr wS w') 40 ?_
       have hS : Gr wS wS.drew := (Gr.refl wS).drew
       obtain ⟨wT, hw9⟩ : ∃ W9, wS.drew = W9 := ⟨_, rfl⟩
       rw [hw9] at hS ⊢
       clear hw9
       refine H12 0 1 2 3 4 5 6 7 8 9 10 11 (c4 z0 z1 z2 q1) hS ?_; refine H5 12 13 14 15 16 (c4 z0 z1 z2 q1) hS ?_; refine Hs8 17 18 19 20 21 22 23 24 hS ?_; refine H12 25 26 27 28 29 30 31 32 33 34 35 36 (c4 z0 z1 z2 q1) hS ?_; refine H3 37 38 39 (c4 z0 z1 z2 q1) hS ?_
       refine Hd ?_
       have HG9 := Lh (H8.out.2.trans hS)
       clear hS
       go_wp2_with fail
       refine bodyPost_ret (v := .tuple #[.slice none 0 0, .int .i64 0, .bool false]) (by simp [results, Tryz.results82, go_sem]) rfl ?_
       exact ⟨none, 0, 0, 0, false, rfl, GB.out.trans (HG9.out), by rw [HQ.out]⟩
      have z1d : decide (u ≤ (i : Int)) = true := decide_eq_true (by omega)
      have HQ := Lh (HBad.out (by rw [HStep.out, HW.out, if_neg (fun e => h1 e.1)]; rfl))
      clear HW HStep HBad HWd HMs
      clear h1 b1 hu
      go_upto_region 30 with (first
       | (go_at_call 115; (refine (C115.out _).mono ?_); rintro e w2 ⟨rfl, g2⟩; have HO2 := Lh (HO7.out.gr g2); have HO3 := Lh (HO8.out.gr g2); clear g2 C115)
       | (at_builtin; refine wpList_app_tri info_word rfl _ _ 74 rfl Tryz.underlying74 _ (ms.map rwd) rfl (HO2.out.gr (((Gr.refl w2).alloc (.cells #[.int .i64 4, .int .i64 (i : Int), .int .i64 0] 128)).alloc (.cells #[.int .i64 4, .int .i64 (i : Int), .int .i64 0] 128))) _ ((4 : Int), (i : Int), (0 : Int)) rfl (box_tri3 (w2.alloc (.cells #[.int .i64 4, .int .i64 (i : Int), .int .i64 0] 128)) (4 : Int) (i : Int) (0 : Int) (by simp)) HML.out ?_; intro v7' wS h7 g7; obtain ⟨z0, z1, z2⟩ := boxK (4 : Int) (i : Int) (0 : Int) HO2.out g7; have H7 := Lh h7; have H8 := Lh (OwnL.other (HO3.out.gr (((Gr.refl w2).alloc (.cells #[.int .i64 4, .int .i64 (i : Int), .int .i64 0] 128)).alloc (.cells #[.int .i64 4, .int .i64 (i : Int), .int .i64 0] 128))) (HO2.out.gr (((Gr.refl w2).alloc (.cells #[.int .i64 4, .int .i64 (i : Int), .int .i64 0] 128)).alloc (.cells #[.int .i64 4, .int .i64 (i : Int), .int .i64 0] 128))).1 (by decide) (Nat.le_refl _) g7); clear h7 g7 HO3))
      have q1 : wS.cell? ⟨bq, kk, none⟩ = some (.int .i64 u) := (HCC.out _ H8.out kk (by have := HK.out; omega)).trans (by rw [HI0.out])
      refine Hg (fun w' => Gr wS w') 40 ?_
      have hS : Gr wS wS.drew := (Gr.refl wS).drew
      obtain ⟨wT, hw9⟩ : ∃ W9, wS.drew = W9 := ⟨_, rfl⟩
      rw [hw9] at hS ⊢
      clear hw9
      refine H12 0 1 2 3 4 5 6 7 8 9 10 11 (c4 z0 z1 z2 q1) hS ?_; refine H1 12 (c4 z0 z1 z2 q1) hS ?_; refine Hs8 13 14 15 16 17 18 19 20 hS ?_; refine Hs4 21 22 23 24 hS ?_; refine Hs1 25 hS ?_; refine H2 26 27 (c4 z0 z1 z2 q1) hS ?_; refine Hs8 28 29 30 31 32 33 34 35 hS ?_; refine Hs2 36 37 hS ?_; refine Hs1 38 hS ?_; refine H1 39 (c4 z0 z1 z2 q1) hS ?_
      refine Hd ?_
      have HG9 := Lh (H8.out.2.trans hS)
      clear hS
      go_wp2_with fail
      refine bodyPost_ret (v := .tuple #[.slice none 0 0, .int .i64 0, .bool false]) (by simp [results, Tryz.results82, go_sem]) rfl ?_
      exact ⟨none, 0, 0, 0, false, rfl, GB.out.trans (HG9.out), by rw [HQ.out]⟩
    | pick i m =>
     as_aux_lemma =>
      have hwl : ¬ pl.length < 1 → pl.length ≤ 12 := fun _ => HPl.out
      clear hwl
      by_cases hl0 : pl.length < 1
      ·have HQ := Lh (HBad.out (by rw [HStep.out]; unfold widW; simp only []; rw [if_pos hl0]; rfl))
       have C115 := Lh (fun W => show Calls Tryz.prog 115 #[.string (bA K), .int .i64 nt] W (fun e w' => e = .returned (.tuple #[.agg #[.int .i64 5, .int .i64 (i : Int), .int .i64 (m : Int)], .bool true]) ∧ Gr W w') from (readWord_any K nt HH4.out.1 W).mono fun e w' ⟨a, b, c, ok, he, hg, hm⟩ => by
        rw [HWd.out] at hm
        obtain ⟨h1, h2⟩ := hm
        rw [show okP nt (.pick i m) = true from rfl] at h1
        obtain ⟨rfl, rfl, rfl⟩ := tri_eq h2
        exact ⟨by rw [he, h1], hg⟩)
       have j1 : (pl.length : Int) < 1 := by omega
       have j1d : decide ((pl.length : Int) < 1) = true := decide_eq_true j1
       have j1n : decide (pl.length < 1) = true := decide_eq_true hl0
       clear HStep HBad HWd hl0
       go_upto_region 30 with (first
        | (go_at_call 115; (refine (C115.out _).mono ?_); rintro e w2 ⟨rfl, g2⟩; have HO2 := Lh (HO7.out.gr g2); have HO3 := Lh (HO8.out.gr g2); clear g2 C115)
        | (at_builtin; refine wpList_app_tri info_word rfl _ _ 74 rfl Tryz.underlying74 _ (ms.map rwd) rfl (HO2.out.gr (((Gr.refl w2).alloc (.cells #[.int .i64 5, .int .i64 (i : Int), .int .i64 (m : Int)] 128)).alloc (.cells #[.int .i64 5, .int .i64 (i : Int), .int .i64 (m : Int)] 128))) _ ((5 : Int), (i : Int), (m : Int)) rfl (box_tri3 (w2.alloc (.cells #[.int .i64 5, .int .i64 (i : Int), .int .i64 (m : Int)] 128)) (5 : Int) (i : Int) (m : Int) (by simp)) HML.out ?_; intro v7' wS h7 g7; obtain ⟨z0, z1, z2⟩ := boxK (5 : Int) (i : Int) (m : Int) HO2.out g7; have H7 := Lh h7; have H8 := Lh (OwnL.other (HO3.out.gr (((Gr.refl w2).alloc (.cells #[.int .i64 5, .int .i64 (i : Int), .int .i64 (m : Int)] 128)).alloc (.cells #[.int .i64 5, .int .i64 (i : Int), .int .i64 (m : Int)] 128))) (HO2.out.gr (((Gr.refl w2).alloc (.cells #[.int .i64 5, .int .i64 (i : Int), .int .i64 (m : Int)] 128)).alloc (.cells #[.int .i64 5, .int .i64 (i : Int), .int .i64 (m : Int)] 128))).1 (by decide) (Nat.le_refl _) g7); clear h7 g7 HO3))
       refine Hg (fun w' => Gr wS w') 40 ?_
       have hS : Gr wS wS.drew := (Gr.refl wS).drew
       obtain ⟨wT, hw9⟩ : ∃ W9, wS.drew = W9 := ⟨_, rfl⟩
       rw [hw9] at hS ⊢
       clear hw9
       refine H3 0 1 2 (c1 z0) hS ?_; refine Hs8 3 4 5 6 7 8 9 10 hS ?_; refine H2 11 12 (c1 z0) hS ?_; refine Hs8 13 14 15 16 17 18 19 20 hS ?_; refine Hs4 21 22 23 24 hS ?_; refine Hs1 25 hS ?_; refine H2 26 27 (c1 z0) hS ?_; refine Hs8 28 29 30 31 32 33 34 35 hS ?_; refine Hs2 36 37 hS ?_; refine Hs1 38 hS ?_; refine H1 39 (c1 z0) hS ?_
       refine Hd ?_
       have HG9 := Lh (H8.out.2.trans hS)
       clear hS
       go_wp2_with fail
       refine bodyPost_ret (v := .tuple #[.slice none 0 0, .int .i64 0, .bool false]) (by simp [results, Tryz.results82, go_sem]) rfl ?_
       exact ⟨none, 0, 0, 0, false, rfl, GB.out.trans (HG9.out), by rw [HQ.out]⟩
      have C115 := Lh (fun W => show Calls Tryz.prog 115 #[.string (bA K), .int .i64 nt] W (fun e w' => e = .returned (.tuple #[.agg #[.int .i64 5, .int .i64 (i : Int), .int .i64 (m : Int)], .bool true]) ∧ Gr W w') from (readWord_any K nt HH4.out.1 W).mono fun e w' ⟨a, b, c, ok, he, hg, hm⟩ => by
       rw [HWd.out] at hm
       obtain ⟨h1, h2⟩ := hm
       rw [show okP nt (.pick i m) = true from rfl] at h1
       obtain ⟨rfl, rfl, rfl⟩ := tri_eq h2
       exact ⟨by rw [he, h1], hg⟩)
      obtain ⟨kk, hkk⟩ : ∃ kk, pl.length = kk + 1 := ⟨pl.length - 1, by omega⟩
      obtain ⟨bq, cq, e8, hc1, hc2, _⟩ := HO8.out.full (by omega)
      obtain ⟨rfl, _, rfl⟩ : a8 = some ⟨bq, 0, none⟩ ∧ pl.length = pl.length ∧ c8 = cq := by cases e8; exact ⟨rfl, rfl, rfl⟩
      clear e8
      have HCC := Lh (show ∀ W, OwnL wB W (.slice (some ⟨bq, 0, none⟩) pl.length c8) pl → ∀ i, i < pl.length → W.cell? ⟨bq, i, none⟩ = some (.int .i64 (iv pl i)) from fun W hO i hi => by
       obtain ⟨b2, cc2, e2, _, _, h⟩ := hO.full (by omega)
       cases e2
       exact h i hi)
      have b1 := H14.out.at (i := kk) (by omega)
      have HW := Lh (show widW (wsOf Ts) (.pick i m) pl = _ by unfold widW; simp only []; rw [if_neg (show ¬ pl.length < 1 by omega), hkk])
      rw [show kk + 1 - 1 = kk by omega] at HW
      have e1 : wrap64 ((pl.length : Int) - 1) = (kk : Int) := by rw [IntWalk.wrap64_in _ (by have := HPl.out; omega)]; omega
      have e2 : IntKind.i64.wrap ((pl.length : Int) - 1) = (kk : Int) := by rw [IntWalk.i64_in _ (by have := HPl.out; omega)]; omega
      have j1 : ¬ (pl.length : Int) < 1 := by omega
      have j1d : decide ((pl.length : Int) < 1) = false := decide_eq_false j1
      have j1n : decide (pl.length < 1) = false := decide_eq_false (by omega)
      have j2 : (kk : Int) ≤ (pl.length : Int) := by omega
      have j3 : (kk : Int) ≤ (c8 : Int) := by omega
      have j4 : (kk : Int) < (pl.length : Int) := by omega
      have HK := Lh hkk
      have HI0 := Lh (show iv pl kk = pl.getD kk 0 from rfl)
      generalize hu : pl.getD kk 0 = u at *
      clear hkk hc1 hc2
      clear hl0
      by_cases h1 : (i : Int) < u
      ·have z1d : decide (u ≤ (i : Int)) = false := decide_eq_false (by omega)
       have HPn := Lh (show planQ (wsOf Ts) (KS.take (k + 1)) [] = some (ms ++ [.pick i m], pl) by rw [HStep.out, HW.out, if_pos h1, ← hu, take_last HK.out]; rfl)
       clear HW HStep HBad HWd
       clear h1 b1 hu
       go_upto_region 30 with (first
        | (go_at_call 115; (refine (C115.out _).mono ?_); rintro e w2 ⟨rfl, g2⟩; have HO2 := Lh (HO7.out.gr g2); have HO3 := Lh (HO8.out.gr g2); clear g2 C115)
        | (at_builtin; refine wpList_app_tri info_word rfl _ _ 74 rfl Tryz.underlying74 _ (ms.map rwd) rfl (HO2.out.gr (((Gr.refl w2).alloc (.cells #[.int .i64 5, .int .i64 (i : Int), .int .i64 (m : Int)] 128)).alloc (.cells #[.int .i64 5, .int .i64 (i : Int), .int .i64 (m : Int)] 128))) _ ((5 : Int), (i : Int), (m : Int)) rfl (box_tri3 (w2.alloc (.cells #[.int .i64 5, .int .i64 (i : Int), .int .i64 (m : Int)] 128)) (5 : Int) (i : Int) (m : Int) (by simp)) HML.out ?_; intro v7' wS h7 g7; obtain ⟨z0, z1, z2⟩ := boxK (5 : Int) (i : Int) (m : Int) HO2.out g7; have H7 := Lh h7; have H8 := Lh (OwnL.other (HO3.out.gr (((Gr.refl w2).alloc (.cells #[.int .i64 5, .int .i64 (i : Int), .int .i64 (m : Int)] 128)).alloc (.cells #[.int .i64 5, .int .i64 (i : Int), .int .i64 (m : Int)] 128))) (HO2.out.gr (((Gr.refl w2).alloc (.cells #[.int .i64 5, .int .i64 (i : Int), .int .i64 (m : Int)] 128)).alloc (.cells #[.int .i64 5, .int .i64 (i : Int), .int .i64 (m : Int)] 128))).1 (by decide) (Nat.le_refl _) g7); clear h7 g7 HO3))
       have q1 : wS.cell? ⟨bq, kk, none⟩ = some (.int .i64 u) := (HCC.out _ H8.out kk (by have := HK.out; omega)).trans (by rw [HI0.out])
       refine Hg (fun w' => Gr wS w') 40 ?_
       have hS : Gr wS wS.drew := (Gr.refl wS).drew
       obtain ⟨wT, hw9⟩ : ∃ W9, wS.drew = W9 := ⟨_, rfl⟩
       rw [hw9] at hS ⊢
       clear hw9
       refine H12 0 1 2 3 4 5 6 7 8 9 10 11 (c4 z0 z1 z2 q1) hS ?_; refine H5 12 13 14 15 16 (c4 z0 z1 z2 q1) hS ?_; refine Hs8 17 18 19 20 21 22 23 24 hS ?_; refine H5 25 26 27 28 29 (c4 z0 z1 z2 q1) hS ?_; refine H2 30 31 (c4 z0 z1 z2 q1) hS ?_; refine Hs4 32 33 34 35 hS ?_; refine Hs2 36 37 hS ?_; refine H2 38 39 (c4 z0 z1 z2 q1) hS ?_
       refine Hd ?_
       replace z0 := hS.cell z0
       have HO7 := Lh (H7.out.gr hS)
       have HO8' := Lh (H8.out.gr hS)
       have e9 := w9.out
       clear hS q1 z1 z2 e1 e2 j1 j1d i1 H7
       go_wp2_with fail
       go_roundw
       case rel => exact ⟨k + 1, Hlt.out, by first | rw [e9] | rfl, _, _, HPn, Lh (by rw [HMs.out]; exact HO7.out), HO8'⟩
       case measure => first | (rw [e9]; exact RI.fall Hlt.out) | exact RI.fall Hlt.out
      have z1d : decide (u ≤ (i : Int)) = true := decide_eq_true (by omega)
      have HQ := Lh (HBad.out (by rw [HStep.out, HW.out, if_neg h1]; rfl))
      clear HW HStep HBad HWd HMs
      clear h1 b1 hu
      go_upto_region 30 with (first
       | (go_at_call 115; (refine (C115.out _).mono ?_); rintro e w2 ⟨rfl, g2⟩; have HO2 := Lh (HO7.out.gr g2); have HO3 := Lh (HO8.out.gr g2); clear g2 C115)
       | (at_builtin; refine wpList_app_tri info_word rfl _ _ 74 rfl Tryz.underlying74 _ (ms.map rwd) rfl (HO2.out.gr (((Gr.refl w2).alloc (.cells #[.int .i64 5, .int .i64 (i : Int), .int .i64 (m : Int)] 128)).alloc (.cells #[.int .i64 5, .int .i64 (i : Int), .int .i64 (m : Int)] 128))) _ ((5 : Int), (i : Int), (m : Int)) rfl (box_tri3 (w2.alloc (.cells #[.int .i64 5, .int .i64 (i : Int), .int .i64 (m : Int)] 128)) (5 : Int) (i : Int) (m : Int) (by simp)) HML.out ?_; intro v7' wS h7 g7; obtain ⟨z0, z1, z2⟩ := boxK (5 : Int) (i : Int) (m : Int) HO2.out g7; have H7 := Lh h7; have H8 := Lh (OwnL.other (HO3.out.gr (((Gr.refl w2).alloc (.cells #[.int .i64 5, .int .i64 (i : Int), .int .i64 (m : Int)] 128)).alloc (.cells #[.int .i64 5, .int .i64 (i : Int), .int .i64 (m : Int)] 128))) (HO2.out.gr (((Gr.refl w2).alloc (.cells #[.int .i64 5, .int .i64 (i : Int), .int .i64 (m : Int)] 128)).alloc (.cells #[.int .i64 5, .int .i64 (i : Int), .int .i64 (m : Int)] 128))).1 (by decide) (Nat.le_refl _) g7); clear h7 g7 HO3))
      have q1 : wS.cell? ⟨bq, kk, none⟩ = some (.int .i64 u) := (HCC.out _ H8.out kk (by have := HK.out; omega)).trans (by rw [HI0.out])
      refine Hg (fun w' => Gr wS w') 40 ?_
      have hS : Gr wS wS.drew := (Gr.refl wS).drew
      obtain ⟨wT, hw9⟩ : ∃ W9, wS.drew = W9 := ⟨_, rfl⟩
      rw [hw9] at hS ⊢
      clear hw9
      refine H12 0 1 2 3 4 5 6 7 8 9 10 11 (c4 z0 z1 z2 q1) hS ?_; refine H1 12 (c4 z0 z1 z2 q1) hS ?_; refine Hs8 13 14 15 16 17 18 19 20 hS ?_; refine Hs4 21 22 23 24 hS ?_; refine Hs1 25 hS ?_; refine H2 26 27 (c4 z0 z1 z2 q1) hS ?_; refine Hs8 28 29 30 31 32 33 34 35 hS ?_; refine Hs2 36 37 hS ?_; refine Hs1 38 hS ?_; refine H1 39 (c4 z0 z1 z2 q1) hS ?_
      refine Hd ?_
      have HG9 := Lh (H8.out.2.trans hS)
      clear hS
      go_wp2_with fail
      refine bodyPost_ret (v := .tuple #[.slice none 0 0, .int .i64 0, .bool false]) (by simp [results, Tryz.results82, go_sem]) rfl ?_
      exact ⟨none, 0, 0, 0, false, rfl, GB.out.trans (HG9.out), by rw [HQ.out]⟩
    | same i m =>
     as_aux_lemma =>
      have hwl : ¬ pl.length < 1 → pl.length ≤ 12 := fun _ => HPl.out
      clear hwl
      by_cases hl0 : pl.length < 1
      ·have HQ := Lh (HBad.out (by rw [HStep.out]; unfold widW; simp only []; rw [if_pos hl0]; rfl))
       have C115 := Lh (fun W => show Calls Tryz.prog 115 #[.string (bA K), .int .i64 nt] W (fun e w' => e = .returned (.tuple #[.agg #[.int .i64 6, .int .i64 (i : Int), .int .i64 (m : Int)], .bool true]) ∧ Gr W w') from (readWord_any K nt HH4.out.1 W).mono fun e w' ⟨a, b, c, ok, he, hg, hm⟩ => by
        rw [HWd.out] at hm
        obtain ⟨h1, h2⟩ := hm
        rw [show okP nt (.same i m) = true from rfl] at h1
        obtain ⟨rfl, rfl, rfl⟩ := tri_eq h2
        exact ⟨by rw [he, h1], hg⟩)
       have j1 : (pl.length : Int) < 1 := by omega
       have j1d : decide ((pl.length : Int) < 1) = true := decide_eq_true j1
       have j1n : decide (pl.length < 1) = true := decide_eq_true hl0
       clear HStep HBad HWd hl0
       go_upto_region 30 with (first
        | (go_at_call 115; (refine (C115.out _).mono ?_); rintro e w2 ⟨rfl, g2⟩; have HO2 := Lh (HO7.out.gr g2); have HO3 := Lh (HO8.out.gr g2); clear g2 C115)
        | (at_builtin; refine wpList_app_tri info_word rfl _ _ 74 rfl Tryz.underlying74 _ (ms.map rwd) rfl (HO2.out.gr (((Gr.refl w2).alloc (.cells #[.int .i64 6, .int .i64 (i : Int), .int .i64 (m : Int)] 128)).alloc (.cells #[.int .i64 6, .int .i64 (i : Int), .int .i64 (m : Int)] 128))) _ ((6 : Int), (i : Int), (m : Int)) rfl (box_tri3 (w2.alloc (.cells #[.int .i64 6, .int .i64 (i : Int), .int .i64 (m : Int)] 128)) (6 : Int) (i : Int) (m : Int) (by simp)) HML.out ?_; intro v7' wS h7 g7; obtain ⟨z0, z1, z2⟩ := boxK (6 : Int) (i : Int) (m : Int) HO2.out g7; have H7 := Lh h7; have H8 := Lh (OwnL.other (HO3.out.gr (((Gr.refl w2).alloc (.cells #[.int .i64 6, .int .i64 (i : Int), .int .i64 (m : Int)] 128)).alloc (.cells #[.int .i64 6, .int .i64 (i : Int), .int .i64 (m : Int)] 128))) (HO2.out.gr (((Gr.refl w2).alloc (.cells #[.int .i64 6, .int .i64 (i : Int), .int .i64 (m : Int)] 128)).alloc (.cells #[.int .i64 6, .int .i64 (i : Int), .int .i64 (m : Int)] 128))).1 (by decide) (Nat.le_refl _) g7); clear h7 g7 HO3))
       refine Hg (fun w' => Gr wS w') 40 ?_
       have hS : Gr wS wS.drew := (Gr.refl wS).drew
       obtain ⟨wT, hw9⟩ : ∃ W9, wS.drew = W9 := ⟨_, rfl⟩
       rw [hw9] at hS ⊢
       clear hw9
       refine H3 0 1 2 (c1 z0) hS ?_; refine Hs8 3 4 5 6 7 8 9 10 hS ?_; refine H2 11 12 (c1 z0) hS ?_; refine Hs8 13 14 15 16 17 18 19 20 hS ?_; refine Hs4 21 22 23 24 hS ?_; refine Hs1 25 hS ?_; refine H2 26 27 (c1 z0) hS ?_; refine Hs8 28 29 30 31 32 33 34 35 hS ?_; refine Hs2 36 37 hS ?_; refine Hs1 38 hS ?_; refine H1 39 (c1 z0) hS ?_
       refine Hd ?_
       have HG9 := Lh (H8.out.2.trans hS)
       clear hS
       go_wp2_with fail
       refine bodyPost_ret (v := .tuple #[.slice none 0 0, .int .i64 0, .bool false]) (by simp [results, Tryz.results82, go_sem]) rfl ?_
       exact ⟨none, 0, 0, 0, false, rfl, GB.out.trans (HG9.out), by rw [HQ.out]⟩
      have C115 := Lh (fun W => show Calls Tryz.prog 115 #[.string (bA K), .int .i64 nt] W (fun e w' => e = .returned (.tuple #[.agg #[.int .i64 6, .int .i64 (i : Int), .int .i64 (m : Int)], .bool true]) ∧ Gr W w') from (readWord_any K nt HH4.out.1 W).mono fun e w' ⟨a, b, c, ok, he, hg, hm⟩ => by
       rw [HWd.out] at hm
       obtain ⟨h1, h2⟩ := hm
       rw [show okP nt (.same i m) = true from rfl] at h1
       obtain ⟨rfl, rfl, rfl⟩ := tri_eq h2
       exact ⟨by rw [he, h1], hg⟩)
      obtain ⟨kk, hkk⟩ : ∃ kk, pl.length = kk + 1 := ⟨pl.length - 1, by omega⟩
      obtain ⟨bq, cq, e8, hc1, hc2, _⟩ := HO8.out.full (by omega)
      obtain ⟨rfl, _, rfl⟩ : a8 = some ⟨bq, 0, none⟩ ∧ pl.length = pl.length ∧ c8 = cq := by cases e8; exact ⟨rfl, rfl, rfl⟩
      clear e8
      have HCC := Lh (show ∀ W, OwnL wB W (.slice (some ⟨bq, 0, none⟩) pl.length c8) pl → ∀ i, i < pl.length → W.cell? ⟨bq, i, none⟩ = some (.int .i64 (iv pl i)) from fun W hO i hi => by
       obtain ⟨b2, cc2, e2, _, _, h⟩ := hO.full (by omega)
       cases e2
       exact h i hi)
      have b1 := H14.out.at (i := kk) (by omega)
      have HW := Lh (show widW (wsOf Ts) (.same i m) pl = _ by unfold widW; simp only []; rw [if_neg (show ¬ pl.length < 1 by omega), hkk])
      rw [show kk + 1 - 1 = kk by omega] at HW
      have e1 : wrap64 ((pl.length : Int) - 1) = (kk : Int) := by rw [IntWalk.wrap64_in _ (by have := HPl.out; omega)]; omega
      have e2 : IntKind.i64.wrap ((pl.length : Int) - 1) = (kk : Int) := by rw [IntWalk.i64_in _ (by have := HPl.out; omega)]; omega
      have j1 : ¬ (pl.length : Int) < 1 := by omega
      have j1d : decide ((pl.length : Int) < 1) = false := decide_eq_false j1
      have j1n : decide (pl.length < 1) = false := decide_eq_false (by omega)
      have j2 : (kk : Int) ≤ (pl.length : Int) := by omega
      have j3 : (kk : Int) ≤ (c8 : Int) := by omega
      have j4 : (kk : Int) < (pl.length : Int) := by omega
      have HK := Lh hkk
      have HI0 := Lh (show iv pl kk = pl.getD kk 0 from rfl)
      generalize hu : pl.getD kk 0 = u at *
      clear hkk hc1 hc2
      clear hl0
      by_cases h1 : (i : Int) < u
      ·have z1d : decide (u ≤ (i : Int)) = false := decide_eq_false (by omega)
       by_cases h2 : (m : Int) < u
       ·have z2d : decide (u ≤ (m : Int)) = false := decide_eq_false (by omega)
        have HPn := Lh (show planQ (wsOf Ts) (KS.take (k + 1)) [] = some (ms ++ [.same i m], pl) by rw [HStep.out, HW.out, if_pos ⟨h1, h2⟩, ← hu, take_last HK.out]; rfl)
        clear HW HStep HBad HWd
        clear h1 h2 b1 hu
        go_upto_region 30 with (first
         | (go_at_call 115; (refine (C115.out _).mono ?_); rintro e w2 ⟨rfl, g2⟩; have HO2 := Lh (HO7.out.gr g2); have HO3 := Lh (HO8.out.gr g2); clear g2 C115)
         | (at_builtin; refine wpList_app_tri info_word rfl _ _ 74 rfl Tryz.underlying74 _ (ms.map rwd) rfl (HO2.out.gr (((Gr.refl w2).alloc (.cells #[.int .i64 6, .int .i64 (i : Int), .int .i64 (m : Int)] 128)).alloc (.cells #[.int .i64 6, .int .i64 (i : Int), .int .i64 (m : Int)] 128))) _ ((6 : Int), (i : Int), (m : Int)) rfl (box_tri3 (w2.alloc (.cells #[.int .i64 6, .int .i64 (i : Int), .int .i64 (m : Int)] 128)) (6 : Int) (i : Int) (m : Int) (by simp)) HML.out ?_; intro v7' wS h7 g7; obtain ⟨z0, z1, z2⟩ := boxK (6 : Int) (i : Int) (m : Int) HO2.out g7; have H7 := Lh h7; have H8 := Lh (OwnL.other (HO3.out.gr (((Gr.refl w2).alloc (.cells #[.int .i64 6, .int .i64 (i : Int), .int .i64 (m : Int)] 128)).alloc (.cells #[.int .i64 6, .int .i64 (i : Int), .int .i64 (m : Int)] 128))) (HO2.out.gr (((Gr.refl w2).alloc (.cells #[.int .i64 6, .int .i64 (i : Int), .int .i64 (m : Int)] 128)).alloc (.cells #[.int .i64 6, .int .i64 (i : Int), .int .i64 (m : Int)] 128))).1 (by decide) (Nat.le_refl _) g7); clear h7 g7 HO3))
        have q1 : wS.cell? ⟨bq, kk, none⟩ = some (.int .i64 u) := (HCC.out _ H8.out kk (by have := HK.out; omega)).trans (by rw [HI0.out])
        refine Hg (fun w' => Gr wS w') 40 ?_
        have hS : Gr wS wS.drew := (Gr.refl wS).drew
        obtain ⟨wT, hw9⟩ : ∃ W9, wS.drew = W9 := ⟨_, rfl⟩
        rw [hw9] at hS ⊢
        clear hw9
        refine H12 0 1 2 3 4 5 6 7 8 9 10 11 (c4 z0 z1 z2 q1) hS ?_; refine H12 12 13 14 15 16 17 18 19 20 21 22 23 (c4 z0 z1 z2 q1) hS ?_; refine H5 24 25 26 27 28 (c4 z0 z1 z2 q1) hS ?_; refine H3 29 30 31 (c4 z0 z1 z2 q1) hS ?_; refine Hs4 32 33 34 35 hS ?_; refine Hs2 36 37 hS ?_; refine H2 38 39 (c4 z0 z1 z2 q1) hS ?_
        refine Hd ?_
        replace z0 := hS.cell z0
        have HO7 := Lh (H7.out.gr hS)
        have HO8' := Lh (H8.out.gr hS)
        have e9 := w9.out
        clear hS q1 z1 z2 e1 e2 j1 j1d i1 H7
        go_wp2_with fail
        go_roundw
        case rel => exact ⟨k + 1, Hlt.out, by first | rw [e9] | rfl, _, _, HPn, Lh (by rw [HMs.out]; exact HO7.out), HO8'⟩
        case measure => first | (rw [e9]; exact RI.fall Hlt.out) | exact RI.fall Hlt.out
       have z2d : decide (u ≤ (m : Int)) = true := decide_eq_true (by omega)
       have HQ := Lh (HBad.out (by rw [HStep.out, HW.out, if_neg (fun e => h2 e.2)]; rfl))
       clear HW HStep HBad HWd HMs
       clear h1 h2 b1 hu
       go_upto_region 30 with (first
        | (go_at_call 115; (refine (C115.out _).mono ?_); rintro e w2 ⟨rfl, g2⟩; have HO2 := Lh (HO7.out.gr g2); have HO3 := Lh (HO8.out.gr g2); clear g2 C115)
        | (at_builtin; refine wpList_app_tri info_word rfl _ _ 74 rfl Tryz.underlying74 _ (ms.map rwd) rfl (HO2.out.gr (((Gr.refl w2).alloc (.cells #[.int .i64 6, .int .i64 (i : Int), .int .i64 (m : Int)] 128)).alloc (.cells #[.int .i64 6, .int .i64 (i : Int), .int .i64 (m : Int)] 128))) _ ((6 : Int), (i : Int), (m : Int)) rfl (box_tri3 (w2.alloc (.cells #[.int .i64 6, .int .i64 (i : Int), .int .i64 (m : Int)] 128)) (6 : Int) (i : Int) (m : Int) (by simp)) HML.out ?_; intro v7' wS h7 g7; obtain ⟨z0, z1, z2⟩ := boxK (6 : Int) (i : Int) (m : Int) HO2.out g7; have H7 := Lh h7; have H8 := Lh (OwnL.other (HO3.out.gr (((Gr.refl w2).alloc (.cells #[.int .i64 6, .int .i64 (i : Int), .int .i64 (m : Int)] 128)).alloc (.cells #[.int .i64 6, .int .i64 (i : Int), .int .i64 (m : Int)] 128))) (HO2.out.gr (((Gr.refl w2).alloc (.cells #[.int .i64 6, .int .i64 (i : Int), .int .i64 (m : Int)] 128)).alloc (.cells #[.int .i64 6, .int .i64 (i : Int), .int .i64 (m : Int)] 128))).1 (by decide) (Nat.le_refl _) g7); clear h7 g7 HO3))
       have q1 : wS.cell? ⟨bq, kk, none⟩ = some (.int .i64 u) := (HCC.out _ H8.out kk (by have := HK.out; omega)).trans (by rw [HI0.out])
       refine Hg (fun w' => Gr wS w') 40 ?_
       have hS : Gr wS wS.drew := (Gr.refl wS).drew
       obtain ⟨wT, hw9⟩ : ∃ W9, wS.drew = W9 := ⟨_, rfl⟩
       rw [hw9] at hS ⊢
       clear hw9
       refine H12 0 1 2 3 4 5 6 7 8 9 10 11 (c4 z0 z1 z2 q1) hS ?_; refine H12 12 13 14 15 16 17 18 19 20 21 22 23 (c4 z0 z1 z2 q1) hS ?_; refine H4 24 25 26 27 (c4 z0 z1 z2 q1) hS ?_; refine Hs8 28 29 30 31 32 33 34 35 hS ?_; refine Hs2 36 37 hS ?_; refine Hs1 38 hS ?_; refine H1 39 (c4 z0 z1 z2 q1) hS ?_
       refine Hd ?_
       have HG9 := Lh (H8.out.2.trans hS)
       clear hS
       go_wp2_with fail
       refine bodyPost_ret (v := .tuple #[.slice none 0 0, .int .i64 0, .bool false]) (by simp [results, Tryz.results82, go_sem]) rfl ?_
       exact ⟨none, 0, 0, 0, false, rfl, GB.out.trans (HG9.out), by rw [HQ.out]⟩
      have z1d : decide (u ≤ (i : Int)) = true := decide_eq_true (by omega)
      have HQ := Lh (HBad.out (by rw [HStep.out, HW.out, if_neg (fun e => h1 e.1)]; rfl))
      clear HW HStep HBad HWd HMs
      clear h1 b1 hu
      go_upto_region 30 with (first
       | (go_at_call 115; (refine (C115.out _).mono ?_); rintro e w2 ⟨rfl, g2⟩; have HO2 := Lh (HO7.out.gr g2); have HO3 := Lh (HO8.out.gr g2); clear g2 C115)
       | (at_builtin; refine wpList_app_tri info_word rfl _ _ 74 rfl Tryz.underlying74 _ (ms.map rwd) rfl (HO2.out.gr (((Gr.refl w2).alloc (.cells #[.int .i64 6, .int .i64 (i : Int), .int .i64 (m : Int)] 128)).alloc (.cells #[.int .i64 6, .int .i64 (i : Int), .int .i64 (m : Int)] 128))) _ ((6 : Int), (i : Int), (m : Int)) rfl (box_tri3 (w2.alloc (.cells #[.int .i64 6, .int .i64 (i : Int), .int .i64 (m : Int)] 128)) (6 : Int) (i : Int) (m : Int) (by simp)) HML.out ?_; intro v7' wS h7 g7; obtain ⟨z0, z1, z2⟩ := boxK (6 : Int) (i : Int) (m : Int) HO2.out g7; have H7 := Lh h7; have H8 := Lh (OwnL.other (HO3.out.gr (((Gr.refl w2).alloc (.cells #[.int .i64 6, .int .i64 (i : Int), .int .i64 (m : Int)] 128)).alloc (.cells #[.int .i64 6, .int .i64 (i : Int), .int .i64 (m : Int)] 128))) (HO2.out.gr (((Gr.refl w2).alloc (.cells #[.int .i64 6, .int .i64 (i : Int), .int .i64 (m : Int)] 128)).alloc (.cells #[.int .i64 6, .int .i64 (i : Int), .int .i64 (m : Int)] 128))).1 (by decide) (Nat.le_refl _) g7); clear h7 g7 HO3))
      have q1 : wS.cell? ⟨bq, kk, none⟩ = some (.int .i64 u) := (HCC.out _ H8.out kk (by have := HK.out; omega)).trans (by rw [HI0.out])
      refine Hg (fun w' => Gr wS w') 40 ?_
      have hS : Gr wS wS.drew := (Gr.refl wS).drew
      obtain ⟨wT, hw9⟩ : ∃ W9, wS.drew = W9 := ⟨_, rfl⟩
      rw [hw9] at hS ⊢
      clear hw9
      refine H12 0 1 2 3 4 5 6 7 8 9 10 11 (c4 z0 z1 z2 q1) hS ?_; refine H1 12 (c4 z0 z1 z2 q1) hS ?_; refine Hs8 13 14 15 16 17 18 19 20 hS ?_; refine Hs4 21 22 23 24 hS ?_; refine Hs1 25 hS ?_; refine H2 26 27 (c4 z0 z1 z2 q1) hS ?_; refine Hs8 28 29 30 31 32 33 34 35 hS ?_; refine Hs2 36 37 hS ?_; refine Hs1 38 hS ?_; refine H1 39 (c4 z0 z1 z2 q1) hS ?_
      refine Hd ?_
      have HG9 := Lh (H8.out.2.trans hS)
      clear hS
      go_wp2_with fail
      refine bodyPost_ret (v := .tuple #[.slice none 0 0, .int .i64 0, .bool false]) (by simp [results, Tryz.results82, go_sem]) rfl ?_
      exact ⟨none, 0, 0, 0, false, rfl, GB.out.trans (HG9.out), by rw [HQ.out]⟩
  obtain rfl : k = n := by omega
  have HT := Lh (show KS.take k = KS by rw [List.take_of_length_le (by have := HNl.out; omega)])
  have i1 : ¬ (k : Int) < (k : Int) := by omega
  rw [HT.out] at HP
  clear hlt HT
  by_cases h1 : pl.length = 1
  ·obtain ⟨a7, cc7, rfl, h7⟩ := HO7.out.rd
   obtain ⟨bq, cq, e8, _, _, hc8⟩ := HO8.out.full (by omega)
   cases e8
   have q0 := hc8 0 (by omega)
   have j1 : ((pl.length : Int) != 1) = false := by rw [h1]; rfl
   have j2 : (0 : Int) < (pl.length : Int) := by omega
   have HF := Lh (show QR = some (ms, iv pl 0) by
    rw [HQr.out, HP.out]
    simp only []
    rw [if_pos ⟨HMl.out, h1⟩]
    rfl)
   have H7 := Lh (show Rd33 wr a7 ms.length cc7 (ms.map rwd) by have := h7; rwa [List.length_map] at this)
   have HG := Lh HO8.out.2
   have HML := Lh (show (ms.map rwd).length = ms.length by rw [List.length_map])
   rw [HML.out] at *
   rw [h1]
   clear h7 hc8 h1 j1 j2
   have j1 : ((1 : Int) != 1) = false := rfl
   generalize iv pl 0 = x0 at *
   go_upto_region 37 with fail
   refine Hg (fun w' => Gr wr w') 7 ?_
   have hS : Gr wr wr.drew := (Gr.refl wr).drew
   obtain ⟨wT, hw9⟩ : ∃ W9, wr.drew = W9 := ⟨_, rfl⟩
   rw [hw9] at hS ⊢
   clear hw9
   refine H5 0 1 2 3 4 (c1 q0) hS ?_; refine H2 5 6 (c1 q0) hS ?_
   refine Hd ?_
   have HS := Lh hS
   clear hS
   go_wp2_with fail
   refine bodyPost_ret (v := .tuple #[.slice a7 ms.length cc7, .int .i64 x0, .bool true]) (by simp [results, Tryz.results82, go_sem]) rfl ?_
   exact ⟨a7, _, cc7, x0, true, rfl, GB.out.trans (HG.out.trans HS.out), by rw [HF.out]; exact ⟨rfl, rfl, rfl, H7.out.gr HS.out⟩⟩
  have j1 : ((pl.length : Int) != 1) = true := by simp; omega
  have HQ := Lh (show QR = none by
   rw [HQr.out, HP.out]
   simp only []
   rw [if_neg (fun e => h1 e.2)])
  clear h1
  go_wp2_with fail
  refine bodyPost_ret (v := .tuple #[.slice none 0 0, .int .i64 0, .bool false]) (by simp [results, Tryz.results82, go_sem]) rfl ?_
  exact ⟨none, 0, 0, 0, false, rfl, GB.out.trans (HO8.out.2), by rw [HQ.out]⟩
end Go.Proofs.YtehdemcfeoiecaaGreatDoor
