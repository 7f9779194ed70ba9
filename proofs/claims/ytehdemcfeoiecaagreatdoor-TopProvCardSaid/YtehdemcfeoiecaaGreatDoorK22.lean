import Derived.Test.YtehdemcfeoiecaaGreatDoorK14
import Derived.Test.YtehdemcfeoiecaaGreatDoorK20
set_option maxHeartbeats 64000000
set_option maxRecDepth 100000
namespace Go.Proofs.YtehdemcfeoiecaaGreatDoor
open Go.RowKit Go.Firn Go.Shelf
theorem AreNumbers_any (a : Option Addr) (n c : Nat) (l : Nat → Int) (B : Int) (w : World) (hn : n ≤ 9223372036854775807) (hr : RdI w a n l) :
  Calls Tryz.prog 30 #[.slice a n c, .int .i64 B] w (RetB (nmB l n B) w) := by
 have HR := Lh hr
 clear hr
 go_enter Tryz.func30, Tryz.ntmps30
 go_wp2
 go_loopw [9] (fun si wr => ∃ k : Nat, k ≤ n ∧ si = .int .i64 k ∧ Hid (nmK l B k = true) ∧ wr = w) (fun si _ => n - (intOf si).toNat)
 case atStart => exact ⟨0, Nat.zero_le _, rfl, nmK_zero l B, rfl⟩
 case round =>
  obtain ⟨k, hk, rfl, hK, hw⟩ := hrel
  subst hw
  by_cases hlt : k < n
  ·have i1 : (k : Int) < (n : Int) := by omega
   obtain ⟨b, o, rfl, hc⟩ := HR.out.at hlt
   have ck := hc k hlt
   have KS := Lh (show btw 0 (l k) B = true → nmK l B (k + 1) = true from fun h => by rw [nmK_succ, hK.out, h]; rfl)
   have KF := Lh (show btw 0 (l k) B = false → nmB l n B = false from fun h => by unfold nmB; rw [nmK_stop hlt h]; rfl)
   clear hc
   generalize l k = x at *
   by_cases h1 : x < 0
   ·have F := Lh (KF.out (by unfold btw; rw [decide_eq_false (by omega)]; rfl))
    go_wp2_with fail
    go_ret
    rw [F.out]
    exact ⟨rfl, Gr.refl _⟩
   by_cases h2 : B < x
   ·have F := Lh (KF.out (by unfold btw; rw [decide_eq_false (show ¬ x ≤ B by omega)]; simp))
    go_wp2_with fail
    go_ret
    rw [F.out]
    exact ⟨rfl, Gr.refl _⟩
   have F := Lh (KS.out (by unfold btw; rw [decide_eq_true (show 0 ≤ x by omega), decide_eq_true (show x ≤ B by omega)]; rfl))
   go_wp2_with fail
   go_roundw
   case rel => exact ⟨k + 1, hlt, by go_num, F, by trivial⟩
   case measure => simp [intOf]; omega
  obtain rfl : k = n := by omega
  have i1 : ¬ (k : Int) < (k : Int) := by omega
  have E := Lh (show nmB l k B = ((k : Int) == 8) by unfold nmB; rw [hK.out, Bool.true_and, Bool.eq_iff_iff]; simp; omega)
  go_wp2_with fail
  go_ret
  rw [E.out]
  exact ⟨rfl, Gr.refl _⟩
def CsN (f : Nat → ByteArray) (g : Nat → Int) (n : Nat) (l : Nat → Int) (m : Nat) : Int := if vS f g n = true then (if nmB l m 1000 = true then (if n = 0 then 0 else mnR (csP l f) n) else 0) else 0
def CsE (f : Nat → ByteArray) (g : Nat → Int) (n : Nat) (l : Nat → Int) (m : Nat) : Int := if vS f g n = true then (if nmB l m 1000 = true then (if n = 0 then 5 else 0) else 2) else 92
/-! ## Value and Cost -/
theorem refValue_any (a a' : Option Addr) (n c m c' : Nat) (f : Nat → ByteArray) (g : Nat → Int) (l : Nat → Int) (w : World) (hn : n ≤ 9223372036854775807) (hz : ∀ i, i < n → (f i).size ≤ 9223372036854775807) (hm : m ≤ 9223372036854775807) (hr : RdS w a n f g) (hl : RdI w a' m l) :
  Calls Tryz.prog 69 #[.slice a n c, .slice a' m c'] w (RetNE (VlN f g n l m) (VlE f g n l m) w) := by
 have C1 := Lh (fun w1 (k : Gr w w1) => refValidSum_any a n c f g w1 hn hz (hr.gr k))
 have C2 := Lh (fun w1 (k : Gr w w1) => AreNumbers_any a' m c' l 10 w1 hm (hl.gr k))
 cases h1 : vS f g n with
 | false =>
  have e1 : VlN f g n l m = 0 := by unfold VlN; rw [h1]; rfl
  have e2 : VlE f g n l m = 92 := by unfold VlE; rw [h1]; rfl
  rw [e1, e2]
  rw [h1] at C1
  clear e1 e2 h1 hr hl hz
  go_enter Tryz.func69, Tryz.ntmps69
  go_wp2_with (go_at_call 70; (with_reducible refine (C1.out _ (Gr.refl _)).mono ?_); rintro e w1 ⟨rfl, g1⟩; have G1 := Lh g1; clear g1)
  exact bodyPost_ret (v := .tuple #[.int .i64 0, .int .i64 92]) (by simp [results, Tryz.results69, go_sem]) rfl ⟨rfl, G1.out⟩
 | true =>
  cases h2 : nmB l m 10 with
  | false =>
   have e1 : VlN f g n l m = 0 := by unfold VlN; rw [h1, h2]; rfl
   have e2 : VlE f g n l m = 2 := by unfold VlE; rw [h1, h2]; rfl
   rw [e1, e2]
   rw [h1] at C1
   rw [h2] at C2
   clear e1 e2 h1 h2 hr hl hz
   go_enter Tryz.func69, Tryz.ntmps69
   go_wp2_with (first
    | (go_at_call 70; (with_reducible refine (C1.out _ (Gr.refl _)).mono ?_); rintro e w1 ⟨rfl, g1⟩; have G1 := Lh g1; clear g1)
    | (go_at_call 30; (with_reducible refine (C2.out _ G1.out).mono ?_); rintro e w2 ⟨rfl, g2⟩; have G2 := Lh (G1.out.trans g2); clear g2))
   exact bodyPost_ret (v := .tuple #[.int .i64 0, .int .i64 2]) (by simp [results, Tryz.results69, go_sem]) rfl ⟨rfl, G2.out⟩
  | true =>
   obtain ⟨rfl, hb⟩ := nmB_at h2
   have e1 : VlN f g n l 8 = vlS l f g n := by unfold VlN; rw [h1, h2]; rfl
   have e2 : VlE f g n l 8 = 0 := by unfold VlE; rw [h1, h2]; rfl
   have C3 := Lh (fun w1 (k : Gr w w1) => refvalue_any a a' n c c' f g l w1 h1 (hr.gr k) (hl.gr k) hb)
   rw [e1, e2]
   rw [h1] at C1
   rw [h2] at C2
   clear e1 e2 h1 h2 hr hl hz hb
   generalize vlS l f g n = v at *
   go_enter Tryz.func69, Tryz.ntmps69
   go_wp2_with (first
    | (go_at_call 70; (with_reducible refine (C1.out _ (Gr.refl _)).mono ?_); rintro e w1 ⟨rfl, g1⟩; have G1 := Lh g1; clear g1)
    | (go_at_call 30; (with_reducible refine (C2.out _ G1.out).mono ?_); rintro e w2 ⟨rfl, g2⟩; have G2 := Lh (G1.out.trans g2); clear g2)
    | (go_at_call 99; (with_reducible refine (C3.out _ G2.out).mono ?_); rintro e w3 ⟨rfl, g3⟩; have G3 := Lh (G2.out.trans g3); clear g3))
   exact bodyPost_ret (v := .tuple #[.int .i64 v, .int .i64 0]) (by simp [results, Tryz.results69, go_sem]) rfl ⟨rfl, G3.out⟩
theorem refCost_any (a a' : Option Addr) (n c m c' : Nat) (f : Nat → ByteArray) (g : Nat → Int) (l : Nat → Int) (w : World) (hn : n ≤ 9223372036854775807) (hz : ∀ i, i < n → (f i).size ≤ 9223372036854775807) (hm : m ≤ 9223372036854775807) (hr : RdS w a n f g) (hl : RdI w a' m l) :
  Calls Tryz.prog 34 #[.slice a n c, .slice a' m c'] w (RetNE (CsN f g n l m) (CsE f g n l m) w) := by
 have C1 := Lh (fun w1 (k : Gr w w1) => refValidSum_any a n c f g w1 hn hz (hr.gr k))
 have C2 := Lh (fun w1 (k : Gr w w1) => AreNumbers_any a' m c' l 1000 w1 hm (hl.gr k))
 cases h1 : vS f g n with
 | false =>
  have e1 : CsN f g n l m = 0 := by unfold CsN; rw [h1]; rfl
  have e2 : CsE f g n l m = 92 := by unfold CsE; rw [h1]; rfl
  rw [e1, e2]
  rw [h1] at C1
  clear e1 e2 h1 hr hl hz
  go_enter Tryz.func34, Tryz.ntmps34
  go_wp2_with (go_at_call 70; (with_reducible refine (C1.out _ (Gr.refl _)).mono ?_); rintro e w1 ⟨rfl, g1⟩; have G1 := Lh g1; clear g1)
  exact bodyPost_ret (v := .tuple #[.int .i64 0, .int .i64 92]) (by simp [results, Tryz.results34, go_sem]) rfl ⟨rfl, G1.out⟩
 | true =>
  cases h2 : nmB l m 1000 with
  | false =>
   have e1 : CsN f g n l m = 0 := by unfold CsN; rw [h1, h2]; rfl
   have e2 : CsE f g n l m = 2 := by unfold CsE; rw [h1, h2]; rfl
   rw [e1, e2]
   rw [h1] at C1
   rw [h2] at C2
   clear e1 e2 h1 h2 hr hl hz
   go_enter Tryz.func34, Tryz.ntmps34
   go_wp2_with (first
    | (go_at_call 70; (with_reducible refine (C1.out _ (Gr.refl _)).mono ?_); rintro e w1 ⟨rfl, g1⟩; have G1 := Lh g1; clear g1)
    | (go_at_call 30; (with_reducible refine (C2.out _ G1.out).mono ?_); rintro e w2 ⟨rfl, g2⟩; have G2 := Lh (G1.out.trans g2); clear g2))
   exact bodyPost_ret (v := .tuple #[.int .i64 0, .int .i64 2]) (by simp [results, Tryz.results34, go_sem]) rfl ⟨rfl, G2.out⟩
  | true =>
   obtain ⟨rfl, hb⟩ := nmB_at h2
   by_cases h0 : n = 0
   ·have e1 : CsN f g n l 8 = 0 := by unfold CsN; rw [h1, h2, if_pos h0]; rfl
    have e2 : CsE f g n l 8 = 5 := by unfold CsE; rw [h1, h2, if_pos h0]; rfl
    rw [e1, e2]
    rw [h1] at C1
    rw [h2] at C2
    have z1 : ((n : Int) == 0) = true := by simp [h0]
    clear e1 e2 h1 h2 hr hl hz hb h0
    go_enter Tryz.func34, Tryz.ntmps34
    go_wp2_with (first
     | (go_at_call 70; (with_reducible refine (C1.out _ (Gr.refl _)).mono ?_); rintro e w1 ⟨rfl, g1⟩; have G1 := Lh g1; clear g1)
     | (go_at_call 30; (with_reducible refine (C2.out _ G1.out).mono ?_); rintro e w2 ⟨rfl, g2⟩; have G2 := Lh (G1.out.trans g2); clear g2))
    exact bodyPost_ret (v := .tuple #[.int .i64 0, .int .i64 5]) (by simp [results, Tryz.results34, go_sem]) rfl ⟨rfl, G2.out⟩
   have e1 : CsN f g n l 8 = mnR (csP l f) n := by unfold CsN; rw [h1, h2, if_neg h0]; rfl
   have e2 : CsE f g n l 8 = 0 := by unfold CsE; rw [h1, h2, if_neg h0]; rfl
   have C3 := Lh (fun w1 (k : Gr w w1) => refcost_any a a' n c c' f g l w1 h1 (hr.gr k) (hl.gr k) hb)
   rw [e1, e2]
   rw [h1] at C1
   rw [h2] at C2
   have z1 : ((n : Int) == 0) = false := by simp; omega
   clear e1 e2 h1 h2 hr hl hz hb h0
   generalize mnR (csP l f) n = v at *
   go_enter Tryz.func34, Tryz.ntmps34
   go_wp2_with (first
    | (go_at_call 70; (with_reducible refine (C1.out _ (Gr.refl _)).mono ?_); rintro e w1 ⟨rfl, g1⟩; have G1 := Lh g1; clear g1)
    | (go_at_call 30; (with_reducible refine (C2.out _ G1.out).mono ?_); rintro e w2 ⟨rfl, g2⟩; have G2 := Lh (G1.out.trans g2); clear g2)
    | (go_at_call 71; (with_reducible refine (C3.out _ G2.out).mono ?_); rintro e w3 ⟨rfl, g3⟩; have G3 := Lh (G2.out.trans g3); clear g3))
   exact bodyPost_ret (v := .tuple #[.int .i64 v, .int .i64 0]) (by simp [results, Tryz.results34, go_sem]) rfl ⟨rfl, G3.out⟩
end Go.Proofs.YtehdemcfeoiecaaGreatDoor
namespace Go.Proofs.YtehdemcfeoiecaaGreatDoor
open Go.Firn Go.Firn.Tb
theorem φC_GC {l : Nat → Int} {B : Int} (hl : Nm8 l B) {L : SL} (h : G0 L) : GC (φC l L) := by
 have := valQ_pos hl (vL_iff.1 h.1).1
 unfold GC φC
 unfold MX
 omega
theorem cosQ_GK {l : Nat → Int} (hl : Nm8 l 1000) {L : SL} (h : G0 L) : GK (cosQ l L) := by
 have h2 := vL_iff.1 h.1
 have := cosQ_bd hl h2.1 h.2 (N := 12) fun x hx => ((over_iff.1 h2.2).1 x hx).2
 unfold GK
 unfold MX
 omega
end Go.Proofs.YtehdemcfeoiecaaGreatDoor
namespace Go.Proofs.YtehdemcfeoiecaaGreatDoor
open Go.RowKit Go.Firn Go.Firn.Tb
theorem SameInts_eq (a : Option Addr) (n c : Nat) (a' : Option Addr) (n' c' : Nat) (L : List Int) (w : World) (h : Rd3 w a n c L) (h' : Rd3 w a' n' c' L) : Calls Tryz.prog 15 #[.slice a n c, .slice a' n' c'] w (RetB true w) := by
 obtain rfl : n' = n := by have := h.1; have := h'.1; omega
 have HH1 := Lh h.2.2.2.2
 have H2 := Lh h'.2.2.2.2
 have HN := Lh (show n' ≤ 9223372036854775807 by have := h.2.1; have := h.2.2.1; omega)
 clear h h'
 go_enter Tryz.func15, Tryz.ntmps15
 go_wp2_with fail
 go_loopw [13] (fun si wr => ∃ i : Nat, i ≤ n' ∧ si = .int .i64 i ∧ Hid (Gr w wr)) (fun si _ => n' - (intOf si).toNat)
 case atStart => exact ⟨0, Nat.zero_le _, rfl, Lh (Gr.refl w)⟩
 case round =>
  obtain ⟨i, hi, rfl, HG⟩ := hrel
  by_cases hlt : i < n'
  ·have i1 : (i : Int) < (n' : Int) := by omega
   obtain ⟨b, o, rfl, hc⟩ := HH1.out.at hlt
   obtain ⟨b2, o2, rfl, hc2⟩ := H2.out.at hlt
   have z0 := HG.out.cell (hc i hlt)
   have z1 := HG.out.cell (hc2 i hlt)
   have Hlt := Lh hlt
   have w9 := Lh (show wrap64 ((i : Int) + 1) = ((i + 1 : Nat) : Int) by rw [IntWalk.wrap64_in _ (by have := HN.out; omega)]; omega)
   generalize iv L i = u at *
   clear hc hc2
   go_upto_region 6 with fail
   refine Hg (fun w' => Gr wr w') 9 ?_
   have hS : Gr wr wr.drew := (Gr.refl wr).drew
   obtain ⟨wT, hw9⟩ : ∃ W9, wr.drew = W9 := ⟨_, rfl⟩
   rw [hw9] at hS ⊢
   clear hw9
   refine H5 0 1 2 3 4 (c2 z0 z1) hS ?_; refine H4 5 6 7 8 (c2 z0 z1) hS ?_
   refine Hd ?_
   have HG2 := Lh (HG.out.trans hS)
   have e9 := w9.out
   clear hS z0 z1 i1
   go_wp2_with fail
   go_roundw
   case rel => exact ⟨i + 1, Hlt.out, by first | rw [e9] | rfl, HG2⟩
   case measure => first | (rw [e9]; exact fallY Hlt.out) | exact fallY Hlt.out
  obtain rfl : i = n' := by omega
  have i1 : ¬ (i : Int) < (i : Int) := by omega
  clear hlt
  go_wp2_with fail
  go_ret
  exact ⟨rfl, HG.out⟩
end Go.Proofs.YtehdemcfeoiecaaGreatDoor
