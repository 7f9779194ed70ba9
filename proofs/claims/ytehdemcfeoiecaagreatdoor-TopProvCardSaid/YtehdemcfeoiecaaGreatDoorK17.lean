import Derived.Test.YtehdemcfeoiecaaGreatDoorK15
import Derived.Test.YtehdemcfeoiecaaGreatDoorK16
set_option maxHeartbeats 64000000
set_option maxRecDepth 100000
namespace Go.Proofs.YtehdemcfeoiecaaGreatDoor
open Go.RowKit Go.Firn Go.Firn.Tb
def RetWi (w0 : World) (v : Value) (r : Option (List Int)) (w : World) (e : Ending) (w' : World) : Prop := ∃ v' ok, e = .returned (.tuple #[v', .bool ok]) ∧ (∃ va vn vc, v' = .slice va vn vc) ∧ Gr w0 w' ∧ w.grownBy w' v.ownBlock ∧ (match r with
 | some q => ok = true ∧ OwnL w0 w' v' q
 | none => ok = false)
theorem grown_trans {A B C : World} {r : Option Nat} (h : A.grownBy B none) (k : B.grownBy C r) : A.grownBy C r :=
 ⟨k.os.trans h.os, k.tape.trans h.tape, k.output.trans h.output, Nat.le_trans h.size k.size, fun j hj hne => (k.block j (Nat.lt_of_lt_of_le hj h.size) hne).trans (h.block j hj (by simp))⟩
theorem box_tri (w : World) (a b c : Int) (e : TypeId) : (w.alloc (.cells #[.int .i64 a, .int .i64 b, .int .i64 c] e)).cell? ⟨w.heap.size, 0, none⟩ = some (.int .i64 a) ∧ (w.alloc (.cells #[.int .i64 a, .int .i64 b, .int .i64 c] e)).cell? ⟨w.heap.size, 1, none⟩ = some (.int .i64 b) ∧ (w.alloc (.cells #[.int .i64 a, .int .i64 b, .int .i64 c] e)).cell? ⟨w.heap.size, 2, none⟩ = some (.int .i64 c) := by
 refine ⟨?_, ?_, ?_⟩ <;> simp
theorem OwnL.full {w0 w : World} {v : Value} {L : List Int} (h : OwnL w0 w v L) (hl : 1 ≤ L.length) : ∃ b c, v = .slice (some ⟨b, 0, none⟩) L.length c ∧ L.length ≤ c ∧ c ≤ 9223372036854775807 ∧ ∀ i, i < L.length → w.cell? ⟨b, i, none⟩ = some (.int .i64 (iv L i)) := by
 obtain ⟨a, c, rfl, hr, _⟩ := h.rd
 have h0 := h.1.2
 rcases h0 with ⟨e, hz⟩ | ⟨g, cap, cur, e, _⟩
 ·omega
 cases e
 rcases hr.2.2.2.2 with hz | ⟨b, o, e, hc⟩
 ·omega
 cases e
 refine ⟨_, _, rfl, hr.2.1, hr.2.2.1, fun i hi => ?_⟩
 have := hc i hi
 rwa [Nat.zero_add] at this
theorem wide_put (w0 w : World) (k : Nat) (at_ : Option Addr) (nt ct : Nat) (Ts : List (Int × Tbl SL)) (v : Value) (L : List Int) (hr : RdWs w at_ nt ct Ts) (h : OwnL w0 w v L) (hl : L.length ≤ 1000) :
  Calls Tryz.prog 88 #[.agg #[.int .i64 (stp (.put k)).1, .int .i64 (stp (.put k)).2.1, .int .i64 (stp (.put k)).2.2], .slice at_ nt ct, v] w (RetWi w0 v (widW (wsOf Ts) (.put k) L) w) := by
 obtain ⟨wA, hwA⟩ : ∃ wA, w.alloc (.cells #[.int .i64 (stp (.put k)).1, .int .i64 (stp (.put k)).2.1, .int .i64 (stp (.put k)).2.2] 103) = wA := ⟨_, rfl⟩
 have gA : Gr w wA := hwA ▸ (Gr.refl w).alloc _
 obtain ⟨z0, z1, z2⟩ := box_tri w (stp (.put k)).1 (stp (.put k)).2.1 (stp (.put k)).2.2 103
 rw [hwA] at z0 z1 z2
 have HX := Lh (hr.gr gA)
 have HO := Lh (h.gr gA)
 have HL := Lh hl
 have HG := Lh gA
 have HN := Lh (show nt = (wsOf Ts).length by rw [hr.1]; simp [wsOf])
 simp only [stp] at z0 z1 z2 hwA ⊢
 by_cases hlt : k < nt
 ·obtain ⟨b, o, r, a1, n1, cc1, rfl, hx, k1, k2, _⟩ := HX.out.at hlt
  have hw : widW (wsOf Ts) (.put k) L = some (L ++ [r.1]) := by
   unfold widW; simp only []; rw [if_pos (by rw [← HN.out]; exact hlt), (tabsOf_at (φ := fun L => L) hx).2]
  rw [hw]
  have i1 : ¬ (nt : Int) ≤ (k : Int) := by omega
  have i2 : (k : Int) < (nt : Int) := by omega
  clear hr h hl gA hw hx hlt z2
  generalize r.1 = rW at *
  go_enter Tryz.func88, Tryz.ntmps88
  generalize hbx : w.heap.size = bx at *
  have hc1 : ∀ i, i < 1 → (wA.alloc (.cells #[.int .i64 rW] 3)).cell? ⟨wA.heap.size, 0 + i, none⟩ = some (.int .i64 (iv [rW] i)) := fun i hi => by
   obtain rfl : i = 0 := by omega
   exact cell_new1 wA _ 3
  have HC1 := Lh hc1
  have HO1 := Lh (HO.out.gr ((Gr.refl wA).alloc (.cells #[.int .i64 rW] 3)))
  clear hc1
  go_wp2_with (at_builtin; go_must (refine wpList_cat_ints rfl _ _ rfl v L [rW] rfl HO1.out wA.heap.size 0 1 1 rfl rfl HC1.out (by have := HL.out; omega) ?_); intro v' w2 h2 g2; have HVs := Lh (show ∃ va vn vc, v' = .slice va vn vc from by (obtain ⟨va, vc, hv9, _, _⟩ := h2.rd; exact ⟨_, _, _, hv9⟩)); have HH2 := Lh h2; have G2 := Lh g2; clear h2 g2)
  refine bodyPost_ret (v := .tuple #[v', .bool true]) (by simp [results, Tryz.results88, go_sem]) rfl ?_
  exact ⟨v', true, rfl, HVs.out, HH2.out.2, grown_trans (grows' (HG.out.trans ((Gr.refl wA).alloc _))) G2.out, rfl, HH2.out⟩
 have hw : widW (wsOf Ts) (.put k) L = none := by
  unfold widW; simp only []; rw [if_neg (by rw [← HN.out]; exact hlt)]
 rw [hw]
 have i1 : (nt : Int) ≤ (k : Int) := by omega
 clear hr h hl gA hw hlt z2
 go_enter Tryz.func88, Tryz.ntmps88
 generalize hbx : w.heap.size = bx at *
 go_wp2_with fail
 refine bodyPost_ret (v := .tuple #[.slice none 0 0, .bool false]) (by simp [results, Tryz.results88, go_sem]) rfl ?_
 exact ⟨_, false, rfl, ⟨_, _, _, rfl⟩, HO.out.2, grown_trans (grows' HG.out) (World.grownBy.refl _ _), rfl⟩
theorem wide_orr (w0 w : World) (at_ : Option Addr) (nt ct : Nat) (ws : List Int) (v : Value) (L : List Int) (h : OwnL w0 w v L) (hl : L.length ≤ 1000) (h4 : W14 L) :
  Calls Tryz.prog 88 #[.agg #[.int .i64 (stp (.orr)).1, .int .i64 (stp (.orr)).2.1, .int .i64 (stp (.orr)).2.2], .slice at_ nt ct, v] w (RetWi w0 v (widW ws (.orr) L) w) := by
 obtain ⟨wA, hwA⟩ : ∃ wA, w.alloc (.cells #[.int .i64 (stp (.orr)).1, .int .i64 (stp (.orr)).2.1, .int .i64 (stp (.orr)).2.2] 103) = wA := ⟨_, rfl⟩
 have gA : Gr w wA := hwA ▸ (Gr.refl w).alloc _
 obtain ⟨z0, z1, z2⟩ := box_tri w (stp (.orr)).1 (stp (.orr)).2.1 (stp (.orr)).2.2 103
 rw [hwA] at z0 z1 z2
 have HO := Lh (h.gr gA)
 have HL := Lh hl
 have HG := Lh gA
 simp only [stp] at z0 z1 z2 hwA ⊢
 by_cases hs : L.length < 2
 ·have hw : widW ws (.orr) L = none := by
   unfold widW; simp only []; rw [if_pos hs]
  rw [hw]
  obtain ⟨a, c, rfl, _⟩ := h.rd
  generalize hn : L.length = n at *
  have i1 : (n : Int) < 2 := by omega
  clear h hl h4 gA hw hs
  go_enter Tryz.func88, Tryz.ntmps88
  generalize hbx : w.heap.size = bx at *
  go_wp2_with fail
  refine bodyPost_ret (v := .tuple #[.slice none 0 0, .bool false]) (by simp [results, Tryz.results88, go_sem]) rfl ?_
  exact ⟨_, false, rfl, ⟨_, _, _, rfl⟩, HO.out.2, grown_trans (grows' HG.out) (World.grownBy.refl _ _), rfl⟩
 obtain ⟨b, c, rfl, hc1, hc2, hc⟩ := HO.out.full (by omega)
 obtain ⟨kk, hkk⟩ : ∃ kk, L.length = kk + 2 := ⟨L.length - 2, by omega⟩
 have HT := Lh (HO.out.take (k := kk) (by omega) (fun e => by cases e))
 have q1 := hc kk (by omega)
 have q2 := hc (kk + 2 - 1) (by omega)
 have HW := Lh (show widW ws (.orr) L = _ by unfold widW; simp only []; rw [if_neg hs, hkk])
 have b1 := h4.at (i := kk) (by omega)
 have b2 := h4.at (i := kk + 2 - 1) (by omega)
 rw [show kk + 2 - 2 = kk by omega, show kk + 2 - 1 = kk + 1 by omega] at HW
 rw [show kk + 2 - 1 = kk + 1 by omega] at q2 b2
 rw [show iv L kk = L.getD kk 0 from rfl] at q1
 rw [show iv L (kk + 1) = L.getD (kk + 1) 0 from rfl] at q2
 generalize hu : L.getD kk 0 = u at *
 generalize hv : L.getD (kk + 1) 0 = v at *
 generalize hn : L.length = n at *
 have hn2 : n ≤ 1000 := hl
 have e1 : wrap64 ((n : Int) - 2) = (kk : Int) := by rw [IntWalk.wrap64_in _ (by omega)]; omega
 have e2 : IntKind.i64.wrap ((n : Int) - 2) = (kk : Int) := by rw [IntWalk.i64_in _ (by omega)]; omega
 have y1 : IntKind.i64.wrap 1 = 1 := IntWalk.i64_in _ (by omega)
 have y2 : wrap64 1 = 1 := IntWalk.wrap64_in _ (by omega)
 have y3 : IntKind.i64.wrap 0 = 0 := IntWalk.i64_in _ (by omega)
 have y4 : wrap64 0 = 0 := IntWalk.wrap64_in _ (by omega)
 have j1 : ¬ (n : Int) < 2 := by omega
 have j2 : (kk : Int) ≤ (n : Int) := by omega
 have j3 : (kk : Int) ≤ (c : Int) := by omega
 have j4 : ¬ c = kk := by omega
 have j5 : n - kk = 2 := by omega
 have HK := Lh (And.intro hkk hn)
 clear h hl h4 gA hs hc hn hkk
 by_cases he : u = v
 ·rw [if_pos he] at HW
  have hz : (u == v) = true := by simp [he]
  rw [HW.out]
  clear HW he hu hv b1 b2
  go_enter Tryz.func88, Tryz.ntmps88
  generalize hbx : w.heap.size = bx at *
  go_upto_region 10 with fail
  refine Hg (fun w' => Gr wA w') 14 ?_
  have hS : Gr wA wA.drew := (Gr.refl wA).drew
  refine H12 0 1 2 3 4 5 6 7 8 9 10 11 tv hS ?_; refine H2 12 13 tv hS ?_
  refine Hd ?_
  go_upto_region 11 with fail
  obtain ⟨wB, hwB⟩ : ∃ wB, wA.drew = wB := ⟨_, rfl⟩
  rw [hwB] at hS ⊢
  clear hwB
  refine Hg (fun w' => Gr wA w') 10 ?_
  have hS : Gr wA wB.drew := hS.drew
  refine H5 0 1 2 3 4 (c2 q1 q2) hS ?_; refine H5 5 6 7 8 9 (c2 q1 q2) hS ?_
  refine Hd ?_
  obtain ⟨wC, hwC⟩ : ∃ wC, wB.drew = wC := ⟨_, rfl⟩
  rw [hwC] at hS ⊢
  clear hwC
  replace z0 := hS.cell z0
  replace z1 := hS.cell z1
  replace z2 := hS.cell z2
  have hc1 : ∀ i, i < 1 → (wC.alloc (.cells #[.int .i64 (u)] 3)).cell? ⟨wC.heap.size, 0 + i, none⟩ = some (.int .i64 (iv [u] i)) := fun i hi => by
   obtain rfl : i = 0 := by omega
   exact cell_new1 wC _ 3
  have HC1 := Lh hc1
  have HO1 := Lh (HT.out.gr (hS.trans ((Gr.refl wC).alloc (.cells #[.int .i64 (u)] 3))))
  have HG2 := Lh (HG.out.trans (hS.trans ((Gr.refl wC).alloc (.cells #[.int .i64 (u)] 3))))
  clear hc1 hS q1 q2 e1 e2 j2 j3 j4 j5
  go_wp2_with (at_builtin; go_must (refine wpList_cat_ints rfl _ _ rfl _ (L.take kk) [u] rfl HO1.out wC.heap.size 0 1 1 rfl rfl HC1.out (by rw [List.length_take]; have := HL.out; have := HK.out; omega) ?_); intro v' w2 h2 g2; have HVs := Lh (show ∃ va vn vc, v' = .slice va vn vc from by (obtain ⟨va, vc, hv9, _, _⟩ := h2.rd; exact ⟨_, _, _, hv9⟩)); have HH2 := Lh h2; have G2 := Lh g2; clear h2 g2)
  refine bodyPost_ret (v := .tuple #[v', .bool true]) (by simp [results, Tryz.results88, go_sem]) rfl ?_
  exact ⟨v', true, rfl, HVs.out, HH2.out.2, grown_trans (grows' HG2.out) G2.out, rfl, HH2.out⟩
 rw [if_neg he] at HW
 have hz : (u == v) = false := by simp [he]
 rw [HW.out]
 clear HW he hu hv b1 b2
 go_enter Tryz.func88, Tryz.ntmps88
 generalize hbx : w.heap.size = bx at *
 go_upto_region 10 with fail
 refine Hg (fun w' => Gr wA w') 14 ?_
 have hS : Gr wA wA.drew := (Gr.refl wA).drew
 refine H12 0 1 2 3 4 5 6 7 8 9 10 11 tv hS ?_; refine H2 12 13 tv hS ?_
 refine Hd ?_
 go_upto_region 11 with fail
 obtain ⟨wB, hwB⟩ : ∃ wB, wA.drew = wB := ⟨_, rfl⟩
 rw [hwB] at hS ⊢
 clear hwB
 refine Hg (fun w' => Gr wA w') 10 ?_
 have hS : Gr wA wB.drew := hS.drew
 refine H5 0 1 2 3 4 (c2 q1 q2) hS ?_; refine H5 5 6 7 8 9 (c2 q1 q2) hS ?_
 refine Hd ?_
 obtain ⟨wC, hwC⟩ : ∃ wC, wB.drew = wC := ⟨_, rfl⟩
 rw [hwC] at hS ⊢
 clear hwC
 replace z0 := hS.cell z0
 replace z1 := hS.cell z1
 replace z2 := hS.cell z2
 have hc1 : ∀ i, i < 1 → (wC.alloc (.cells #[.int .i64 (u)] 3)).cell? ⟨wC.heap.size, 0 + i, none⟩ = some (.int .i64 (iv [u] i)) := fun i hi => by
  obtain rfl : i = 0 := by omega
  exact cell_new1 wC _ 3
 have HC1 := Lh hc1
 have HO1 := Lh (HT.out.gr (hS.trans ((Gr.refl wC).alloc (.cells #[.int .i64 (u)] 3))))
 have HG2 := Lh (HG.out.trans (hS.trans ((Gr.refl wC).alloc (.cells #[.int .i64 (u)] 3))))
 clear hc1 hS q1 q2 e1 e2 j2 j3 j4 j5
 go_wp2_with (at_builtin; go_must (refine wpList_cat_ints rfl _ _ rfl _ (L.take kk) [u] rfl HO1.out wC.heap.size 0 1 1 rfl rfl HC1.out (by rw [List.length_take]; have := HL.out; have := HK.out; omega) ?_); intro v' w2 h2 g2; have HVs := Lh (show ∃ va vn vc, v' = .slice va vn vc from by (obtain ⟨va, vc, hv9, _, _⟩ := h2.rd; exact ⟨_, _, _, hv9⟩)); have HH2 := Lh h2; have G2 := Lh g2; clear h2 g2)
 refine bodyPost_ret (v := .tuple #[v', .bool false]) (by simp [results, Tryz.results88, go_sem]) rfl ?_
 exact ⟨v', false, rfl, HVs.out, HH2.out.2, grown_trans (grows' HG2.out) G2.out, rfl⟩
theorem wide_byy (w0 w : World) (at_ : Option Addr) (nt ct : Nat) (ws : List Int) (v : Value) (L : List Int) (h : OwnL w0 w v L) (hl : L.length ≤ 1000) (h4 : W14 L) :
  Calls Tryz.prog 88 #[.agg #[.int .i64 (stp (.byy)).1, .int .i64 (stp (.byy)).2.1, .int .i64 (stp (.byy)).2.2], .slice at_ nt ct, v] w (RetWi w0 v (widW ws (.byy) L) w) := by
 obtain ⟨wA, hwA⟩ : ∃ wA, w.alloc (.cells #[.int .i64 (stp (.byy)).1, .int .i64 (stp (.byy)).2.1, .int .i64 (stp (.byy)).2.2] 103) = wA := ⟨_, rfl⟩
 have gA : Gr w wA := hwA ▸ (Gr.refl w).alloc _
 obtain ⟨z0, z1, z2⟩ := box_tri w (stp (.byy)).1 (stp (.byy)).2.1 (stp (.byy)).2.2 103
 rw [hwA] at z0 z1 z2
 have HO := Lh (h.gr gA)
 have HL := Lh hl
 have HG := Lh gA
 simp only [stp] at z0 z1 z2 hwA ⊢
 by_cases hs : L.length < 2
 ·have hw : widW ws (.byy) L = none := by
   unfold widW; simp only []; rw [if_pos hs]
  rw [hw]
  obtain ⟨a, c, rfl, _⟩ := h.rd
  generalize hn : L.length = n at *
  have i1 : (n : Int) < 2 := by omega
  clear h hl h4 gA hw hs
  go_enter Tryz.func88, Tryz.ntmps88
  generalize hbx : w.heap.size = bx at *
  go_wp2_with fail
  refine bodyPost_ret (v := .tuple #[.slice none 0 0, .bool false]) (by simp [results, Tryz.results88, go_sem]) rfl ?_
  exact ⟨_, false, rfl, ⟨_, _, _, rfl⟩, HO.out.2, grown_trans (grows' HG.out) (World.grownBy.refl _ _), rfl⟩
 obtain ⟨b, c, rfl, hc1, hc2, hc⟩ := HO.out.full (by omega)
 obtain ⟨kk, hkk⟩ : ∃ kk, L.length = kk + 2 := ⟨L.length - 2, by omega⟩
 have HT := Lh (HO.out.take (k := kk) (by omega) (fun e => by cases e))
 have q1 := hc kk (by omega)
 have q2 := hc (kk + 2 - 1) (by omega)
 have HW := Lh (show widW ws (.byy) L = _ by unfold widW; simp only []; rw [if_neg hs, hkk])
 have b1 := h4.at (i := kk) (by omega)
 have b2 := h4.at (i := kk + 2 - 1) (by omega)
 rw [show kk + 2 - 2 = kk by omega, show kk + 2 - 1 = kk + 1 by omega] at HW
 rw [show kk + 2 - 1 = kk + 1 by omega] at q2 b2
 rw [show iv L kk = L.getD kk 0 from rfl] at q1
 rw [show iv L (kk + 1) = L.getD (kk + 1) 0 from rfl] at q2
 generalize hu : L.getD kk 0 = u at *
 generalize hv : L.getD (kk + 1) 0 = v at *
 generalize hn : L.length = n at *
 have hn2 : n ≤ 1000 := hl
 have e1 : wrap64 ((n : Int) - 2) = (kk : Int) := by rw [IntWalk.wrap64_in _ (by omega)]; omega
 have e2 : IntKind.i64.wrap ((n : Int) - 2) = (kk : Int) := by rw [IntWalk.i64_in _ (by omega)]; omega
 have y1 : IntKind.i64.wrap 1 = 1 := IntWalk.i64_in _ (by omega)
 have y2 : wrap64 1 = 1 := IntWalk.wrap64_in _ (by omega)
 have y3 : IntKind.i64.wrap 0 = 0 := IntWalk.i64_in _ (by omega)
 have y4 : wrap64 0 = 0 := IntWalk.wrap64_in _ (by omega)
 have j1 : ¬ (n : Int) < 2 := by omega
 have j2 : (kk : Int) ≤ (n : Int) := by omega
 have j3 : (kk : Int) ≤ (c : Int) := by omega
 have j4 : ¬ c = kk := by omega
 have j5 : n - kk = 2 := by omega
 have HK := Lh (And.intro hkk hn)
 clear h hl h4 gA hs hc hn hkk
 obtain ⟨v1, hv1⟩ : ∃ v1, v - 1 = v1 := ⟨_, rfl⟩
 obtain ⟨t, ht⟩ : ∃ t, u + v1 = t := ⟨_, rfl⟩
 have f1 : wrap64 (v - 1) = v1 := (IntWalk.wrap64_in _ (by omega)).trans hv1
 have f2 : IntKind.i64.wrap (v - 1) = v1 := (IntWalk.i64_in _ (by omega)).trans hv1
 have f3 : wrap64 (u + v1) = t := (IntWalk.wrap64_in _ (by omega)).trans ht
 have f4 : IntKind.i64.wrap (u + v1) = t := (IntWalk.i64_in _ (by omega)).trans ht
 rw [show u + v - 1 = t by omega] at HW
 clear hv1 ht
 by_cases he : t ≤ 4
 ·rw [if_pos he] at HW
  have hz : decide (t ≤ 4) = true := decide_eq_true he
  rw [HW.out]
  clear HW he hu hv b1 b2
  go_enter Tryz.func88, Tryz.ntmps88
  generalize hbx : w.heap.size = bx at *
  go_upto_region 10 with fail
  refine Hg (fun w' => Gr wA w') 14 ?_
  have hS : Gr wA wA.drew := (Gr.refl wA).drew
  refine H12 0 1 2 3 4 5 6 7 8 9 10 11 tv hS ?_; refine H2 12 13 tv hS ?_
  refine Hd ?_
  go_upto_region 11 with fail
  obtain ⟨wB, hwB⟩ : ∃ wB, wA.drew = wB := ⟨_, rfl⟩
  rw [hwB] at hS ⊢
  clear hwB
  refine Hg (fun w' => Gr wA w') 10 ?_
  have hS : Gr wA wB.drew := hS.drew
  refine H5 0 1 2 3 4 (c2 q1 q2) hS ?_; refine H5 5 6 7 8 9 (c2 q1 q2) hS ?_
  refine Hd ?_
  obtain ⟨wC, hwC⟩ : ∃ wC, wB.drew = wC := ⟨_, rfl⟩
  rw [hwC] at hS ⊢
  clear hwC
  replace z0 := hS.cell z0
  replace z1 := hS.cell z1
  replace z2 := hS.cell z2
  have hc1 : ∀ i, i < 1 → (wC.alloc (.cells #[.int .i64 (t)] 3)).cell? ⟨wC.heap.size, 0 + i, none⟩ = some (.int .i64 (iv [t] i)) := fun i hi => by
   obtain rfl : i = 0 := by omega
   exact cell_new1 wC _ 3
  have HC1 := Lh hc1
  have HO1 := Lh (HT.out.gr (hS.trans ((Gr.refl wC).alloc (.cells #[.int .i64 (t)] 3))))
  have HG2 := Lh (HG.out.trans (hS.trans ((Gr.refl wC).alloc (.cells #[.int .i64 (t)] 3))))
  clear hc1 hS q1 q2 e1 e2 j2 j3 j4 j5
  go_wp2_with (at_builtin; go_must (refine wpList_cat_ints rfl _ _ rfl _ (L.take kk) [t] rfl HO1.out wC.heap.size 0 1 1 rfl rfl HC1.out (by rw [List.length_take]; have := HL.out; have := HK.out; omega) ?_); intro v' w2 h2 g2; have HVs := Lh (show ∃ va vn vc, v' = .slice va vn vc from by (obtain ⟨va, vc, hv9, _, _⟩ := h2.rd; exact ⟨_, _, _, hv9⟩)); have HH2 := Lh h2; have G2 := Lh g2; clear h2 g2)
  refine bodyPost_ret (v := .tuple #[v', .bool true]) (by simp [results, Tryz.results88, go_sem]) rfl ?_
  exact ⟨v', true, rfl, HVs.out, HH2.out.2, grown_trans (grows' HG2.out) G2.out, rfl, HH2.out⟩
 rw [if_neg he] at HW
 have hz : decide (t ≤ 4) = false := decide_eq_false he
 rw [HW.out]
 clear HW he hu hv b1 b2
 go_enter Tryz.func88, Tryz.ntmps88
 generalize hbx : w.heap.size = bx at *
 go_upto_region 10 with fail
 refine Hg (fun w' => Gr wA w') 14 ?_
 have hS : Gr wA wA.drew := (Gr.refl wA).drew
 refine H12 0 1 2 3 4 5 6 7 8 9 10 11 tv hS ?_; refine H2 12 13 tv hS ?_
 refine Hd ?_
 go_upto_region 11 with fail
 obtain ⟨wB, hwB⟩ : ∃ wB, wA.drew = wB := ⟨_, rfl⟩
 rw [hwB] at hS ⊢
 clear hwB
 refine Hg (fun w' => Gr wA w') 10 ?_
 have hS : Gr wA wB.drew := hS.drew
 refine H5 0 1 2 3 4 (c2 q1 q2) hS ?_; refine H5 5 6 7 8 9 (c2 q1 q2) hS ?_
 refine Hd ?_
 obtain ⟨wC, hwC⟩ : ∃ wC, wB.drew = wC := ⟨_, rfl⟩
 rw [hwC] at hS ⊢
 clear hwC
 replace z0 := hS.cell z0
 replace z1 := hS.cell z1
 replace z2 := hS.cell z2
 have hc1 : ∀ i, i < 1 → (wC.alloc (.cells #[.int .i64 (t)] 3)).cell? ⟨wC.heap.size, 0 + i, none⟩ = some (.int .i64 (iv [t] i)) := fun i hi => by
  obtain rfl : i = 0 := by omega
  exact cell_new1 wC _ 3
 have HC1 := Lh hc1
 have HO1 := Lh (HT.out.gr (hS.trans ((Gr.refl wC).alloc (.cells #[.int .i64 (t)] 3))))
 have HG2 := Lh (HG.out.trans (hS.trans ((Gr.refl wC).alloc (.cells #[.int .i64 (t)] 3))))
 clear hc1 hS q1 q2 e1 e2 j2 j3 j4 j5
 go_wp2_with (at_builtin; go_must (refine wpList_cat_ints rfl _ _ rfl _ (L.take kk) [t] rfl HO1.out wC.heap.size 0 1 1 rfl rfl HC1.out (by rw [List.length_take]; have := HL.out; have := HK.out; omega) ?_); intro v' w2 h2 g2; have HVs := Lh (show ∃ va vn vc, v' = .slice va vn vc from by (obtain ⟨va, vc, hv9, _, _⟩ := h2.rd; exact ⟨_, _, _, hv9⟩)); have HH2 := Lh h2; have G2 := Lh g2; clear h2 g2)
 refine bodyPost_ret (v := .tuple #[v', .bool false]) (by simp [results, Tryz.results88, go_sem]) rfl ?_
 exact ⟨v', false, rfl, HVs.out, HH2.out.2, grown_trans (grows' HG2.out) G2.out, rfl⟩
theorem wide_drop (w0 w : World) (k : Nat) (at_ : Option Addr) (nt ct : Nat) (ws : List Int) (v : Value) (L : List Int) (h : OwnL w0 w v L) (hl : L.length ≤ 1000) (h4 : W14 L) :
  Calls Tryz.prog 88 #[.agg #[.int .i64 (stp (.drop k)).1, .int .i64 (stp (.drop k)).2.1, .int .i64 (stp (.drop k)).2.2], .slice at_ nt ct, v] w (RetWi w0 v (widW ws (.drop k) L) w) := by
 obtain ⟨wA, hwA⟩ : ∃ wA, w.alloc (.cells #[.int .i64 (stp (.drop k)).1, .int .i64 (stp (.drop k)).2.1, .int .i64 (stp (.drop k)).2.2] 103) = wA := ⟨_, rfl⟩
 have gA : Gr w wA := hwA ▸ (Gr.refl w).alloc _
 obtain ⟨z0, z1, z2⟩ := box_tri w (stp (.drop k)).1 (stp (.drop k)).2.1 (stp (.drop k)).2.2 103
 rw [hwA] at z0 z1 z2
 have HO := Lh (h.gr gA)
 have HL := Lh hl
 have HG := Lh gA
 simp only [stp] at z0 z1 z2 hwA ⊢
 by_cases hs : L.length < 1
 ·have hw : widW ws (.drop k) L = none := by
   unfold widW; simp only []; rw [if_pos hs]
  rw [hw]
  obtain ⟨a, c, rfl, _⟩ := h.rd
  generalize hn : L.length = n at *
  have i1 : (n : Int) < 1 := by omega
  clear h hl h4 gA hw hs
  go_enter Tryz.func88, Tryz.ntmps88
  generalize hbx : w.heap.size = bx at *
  go_wp2_with fail
  refine bodyPost_ret (v := .tuple #[.slice none 0 0, .bool false]) (by simp [results, Tryz.results88, go_sem]) rfl ?_
  exact ⟨_, false, rfl, ⟨_, _, _, rfl⟩, HO.out.2, grown_trans (grows' HG.out) (World.grownBy.refl _ _), rfl⟩
 obtain ⟨b, c, rfl, hc1, hc2, hc⟩ := HO.out.full (by omega)
 obtain ⟨kk, hkk⟩ : ∃ kk, L.length = kk + 1 := ⟨L.length - 1, by omega⟩
 have HT := Lh (HO.out.take (k := kk) (by omega) (fun e => by cases e))
 have q1 := hc kk (by omega)
 have q2 := hc (kk + 1 - 1) (by omega)
 have HW := Lh (show widW ws (.drop k) L = _ by unfold widW; simp only []; rw [if_neg hs, hkk])
 have b1 := h4.at (i := kk) (by omega)
 have b2 := h4.at (i := kk + 1 - 1) (by omega)
 rw [show kk + 1 - 1 = kk by omega] at HW
 clear q2 b2
 rw [show iv L kk = L.getD kk 0 from rfl] at q1
 skip
 generalize hu : L.getD kk 0 = u at *
 skip
 generalize hn : L.length = n at *
 have hn2 : n ≤ 1000 := hl
 have e1 : wrap64 ((n : Int) - 1) = (kk : Int) := by rw [IntWalk.wrap64_in _ (by omega)]; omega
 have e2 : IntKind.i64.wrap ((n : Int) - 1) = (kk : Int) := by rw [IntWalk.i64_in _ (by omega)]; omega
 have y1 : IntKind.i64.wrap 1 = 1 := IntWalk.i64_in _ (by omega)
 have y2 : wrap64 1 = 1 := IntWalk.wrap64_in _ (by omega)
 have y3 : IntKind.i64.wrap 0 = 0 := IntWalk.i64_in _ (by omega)
 have y4 : wrap64 0 = 0 := IntWalk.wrap64_in _ (by omega)
 have j1 : ¬ (n : Int) < 1 := by omega
 have j2 : (kk : Int) ≤ (n : Int) := by omega
 have j3 : (kk : Int) ≤ (c : Int) := by omega
 have j4 : ¬ c = kk := by omega
 have j5 : n - kk = 1 := by omega
 have HK := Lh (And.intro hkk hn)
 clear h hl h4 gA hs hc hn hkk
 obtain ⟨u1, hu1⟩ : ∃ u1, u - 1 = u1 := ⟨_, rfl⟩
 have f1 : wrap64 (u - 1) = u1 := (IntWalk.wrap64_in _ (by omega)).trans hu1
 have f2 : IntKind.i64.wrap (u - 1) = u1 := (IntWalk.i64_in _ (by omega)).trans hu1
 rw [hu1] at HW
 clear hu1
 by_cases h1 : (k : Int) < u
 focus
  have hz1 : decide ((k : Int) < u) = true := decide_eq_true h1
  by_cases h2 : 1 < u
  ·have hz2 : decide (1 < u) = true := decide_eq_true h2
   rw [if_pos ⟨h1, h2⟩] at HW
   rw [HW.out]
   clear HW hu b1 h1 h2
   go_enter Tryz.func88, Tryz.ntmps88
   generalize hbx : w.heap.size = bx at *
   go_upto_region 10 with fail
   refine Hg (fun w' => Gr wA w') 14 ?_
   have hS : Gr wA wA.drew := (Gr.refl wA).drew
   refine H12 0 1 2 3 4 5 6 7 8 9 10 11 tv hS ?_; refine H2 12 13 tv hS ?_
   refine Hd ?_
   go_upto_region 11 with fail
   obtain ⟨wB, hwB⟩ : ∃ wB, wA.drew = wB := ⟨_, rfl⟩
   rw [hwB] at hS ⊢
   clear hwB
   refine Hg (fun w' => Gr wA w') 10 ?_
   have hS : Gr wA wB.drew := hS.drew
   refine H5 0 1 2 3 4 (c1 q1) hS ?_; refine H5 5 6 7 8 9 (c1 q1) hS ?_
   refine Hd ?_
   obtain ⟨wC, hwC⟩ : ∃ wC, wB.drew = wC := ⟨_, rfl⟩
   rw [hwC] at hS ⊢
   clear hwC
   replace z0 := hS.cell z0
   replace z1 := hS.cell z1
   replace z2 := hS.cell z2
   have hc1 : ∀ i, i < 1 → (wC.alloc (.cells #[.int .i64 (u1)] 3)).cell? ⟨wC.heap.size, 0 + i, none⟩ = some (.int .i64 (iv [u1] i)) := fun i hi => by
    obtain rfl : i = 0 := by omega
    exact cell_new1 wC _ 3
   have HC1 := Lh hc1
   have HO1 := Lh (HT.out.gr (hS.trans ((Gr.refl wC).alloc (.cells #[.int .i64 (u1)] 3))))
   have HG2 := Lh (HG.out.trans (hS.trans ((Gr.refl wC).alloc (.cells #[.int .i64 (u1)] 3))))
   clear hc1 hS q1 e1 e2 j2 j3 j4 j5
   go_wp2_with (at_builtin; go_must (refine wpList_cat_ints rfl _ _ rfl _ (L.take kk) [u1] rfl HO1.out wC.heap.size 0 1 1 rfl rfl HC1.out (by rw [List.length_take]; have := HL.out; have := HK.out; omega) ?_); intro v' w2 h2 g2; have HVs := Lh (show ∃ va vn vc, v' = .slice va vn vc from by (obtain ⟨va, vc, hv9, _, _⟩ := h2.rd; exact ⟨_, _, _, hv9⟩)); have HH2 := Lh h2; have G2 := Lh g2; clear h2 g2)
   refine bodyPost_ret (v := .tuple #[v', .bool true]) (by simp [results, Tryz.results88, go_sem]) rfl ?_
   exact ⟨v', true, rfl, HVs.out, HH2.out.2, grown_trans (grows' HG2.out) G2.out, rfl, HH2.out⟩
  have hz2 : decide (1 < u) = false := decide_eq_false h2
  rw [if_neg (fun e => h2 e.2)] at HW
  rw [HW.out]
  clear HW hu b1 h1 h2
 rotate_left
 focus
  have hz1 : decide ((k : Int) < u) = false := decide_eq_false h1
  rw [if_neg (fun e => h1 e.1)] at HW
  rw [HW.out]
  clear HW hu b1 h1
 all_goals
  go_enter Tryz.func88, Tryz.ntmps88
  generalize hbx : w.heap.size = bx at *
  go_upto_region 10 with fail
  refine Hg (fun w' => Gr wA w') 14 ?_
  have hS : Gr wA wA.drew := (Gr.refl wA).drew
  refine H12 0 1 2 3 4 5 6 7 8 9 10 11 tv hS ?_; refine H2 12 13 tv hS ?_
  refine Hd ?_
  go_upto_region 11 with fail
  obtain ⟨wB, hwB⟩ : ∃ wB, wA.drew = wB := ⟨_, rfl⟩
  rw [hwB] at hS ⊢
  clear hwB
  refine Hg (fun w' => Gr wA w') 10 ?_
  have hS : Gr wA wB.drew := hS.drew
  refine H5 0 1 2 3 4 (c1 q1) hS ?_; refine H5 5 6 7 8 9 (c1 q1) hS ?_
  refine Hd ?_
  obtain ⟨wC, hwC⟩ : ∃ wC, wB.drew = wC := ⟨_, rfl⟩
  rw [hwC] at hS ⊢
  clear hwC
  replace z0 := hS.cell z0
  replace z1 := hS.cell z1
  replace z2 := hS.cell z2
  have hc1 : ∀ i, i < 1 → (wC.alloc (.cells #[.int .i64 (u1)] 3)).cell? ⟨wC.heap.size, 0 + i, none⟩ = some (.int .i64 (iv [u1] i)) := fun i hi => by
   obtain rfl : i = 0 := by omega
   exact cell_new1 wC _ 3
  have HC1 := Lh hc1
  have HO1 := Lh (HT.out.gr (hS.trans ((Gr.refl wC).alloc (.cells #[.int .i64 (u1)] 3))))
  have HG2 := Lh (HG.out.trans (hS.trans ((Gr.refl wC).alloc (.cells #[.int .i64 (u1)] 3))))
  clear hc1 hS q1 e1 e2 j2 j3 j4 j5
  go_wp2_with (at_builtin; go_must (refine wpList_cat_ints rfl _ _ rfl _ (L.take kk) [u1] rfl HO1.out wC.heap.size 0 1 1 rfl rfl HC1.out (by rw [List.length_take]; have := HL.out; have := HK.out; omega) ?_); intro v' w2 h2 g2; have HVs := Lh (show ∃ va vn vc, v' = .slice va vn vc from by (obtain ⟨va, vc, hv9, _, _⟩ := h2.rd; exact ⟨_, _, _, hv9⟩)); have HH2 := Lh h2; have G2 := Lh g2; clear h2 g2)
  refine bodyPost_ret (v := .tuple #[v', .bool false]) (by simp [results, Tryz.results88, go_sem]) rfl ?_
  exact ⟨v', false, rfl, HVs.out, HH2.out.2, grown_trans (grows' HG2.out) G2.out, rfl⟩
theorem wide_pick (w0 w : World) (k : Nat) (m : Int) (at_ : Option Addr) (nt ct : Nat) (ws : List Int) (v : Value) (L : List Int) (h : OwnL w0 w v L) (hl : L.length ≤ 1000) (h4 : W14 L) :
  Calls Tryz.prog 88 #[.agg #[.int .i64 (stp (.pick k m)).1, .int .i64 (stp (.pick k m)).2.1, .int .i64 (stp (.pick k m)).2.2], .slice at_ nt ct, v] w (RetWi w0 v (widW ws (.pick k m) L) w) := by
 obtain ⟨wA, hwA⟩ : ∃ wA, w.alloc (.cells #[.int .i64 (stp (.pick k m)).1, .int .i64 (stp (.pick k m)).2.1, .int .i64 (stp (.pick k m)).2.2] 103) = wA := ⟨_, rfl⟩
 have gA : Gr w wA := hwA ▸ (Gr.refl w).alloc _
 obtain ⟨z0, z1, z2⟩ := box_tri w (stp (.pick k m)).1 (stp (.pick k m)).2.1 (stp (.pick k m)).2.2 103
 rw [hwA] at z0 z1 z2
 have HO := Lh (h.gr gA)
 have HL := Lh hl
 have HG := Lh gA
 simp only [stp] at z0 z1 z2 hwA ⊢
 by_cases hs : L.length < 1
 ·have hw : widW ws (.pick k m) L = none := by
   unfold widW; simp only []; rw [if_pos hs]
  rw [hw]
  obtain ⟨a, c, rfl, _⟩ := h.rd
  generalize hn : L.length = n at *
  have i1 : (n : Int) < 1 := by omega
  clear h hl h4 gA hw hs
  go_enter Tryz.func88, Tryz.ntmps88
  generalize hbx : w.heap.size = bx at *
  go_wp2_with fail
  refine bodyPost_ret (v := .tuple #[.slice none 0 0, .bool false]) (by simp [results, Tryz.results88, go_sem]) rfl ?_
  exact ⟨_, false, rfl, ⟨_, _, _, rfl⟩, HO.out.2, grown_trans (grows' HG.out) (World.grownBy.refl _ _), rfl⟩
 obtain ⟨b, c, rfl, hc1, hc2, hc⟩ := HO.out.full (by omega)
 obtain ⟨kk, hkk⟩ : ∃ kk, L.length = kk + 1 := ⟨L.length - 1, by omega⟩
 have HT := Lh (HO.out.take (k := kk) (by omega) (fun e => by cases e))
 have q1 := hc kk (by omega)
 have q2 := hc (kk + 1 - 1) (by omega)
 have HW := Lh (show widW ws (.pick k m) L = _ by unfold widW; simp only []; rw [if_neg hs, hkk])
 have b1 := h4.at (i := kk) (by omega)
 have b2 := h4.at (i := kk + 1 - 1) (by omega)
 rw [show kk + 1 - 1 = kk by omega] at HW
 clear q2 b2
 rw [show iv L kk = L.getD kk 0 from rfl] at q1
 skip
 generalize hu : L.getD kk 0 = u at *
 skip
 generalize hn : L.length = n at *
 have hn2 : n ≤ 1000 := hl
 have e1 : wrap64 ((n : Int) - 1) = (kk : Int) := by rw [IntWalk.wrap64_in _ (by omega)]; omega
 have e2 : IntKind.i64.wrap ((n : Int) - 1) = (kk : Int) := by rw [IntWalk.i64_in _ (by omega)]; omega
 have y1 : IntKind.i64.wrap 1 = 1 := IntWalk.i64_in _ (by omega)
 have y2 : wrap64 1 = 1 := IntWalk.wrap64_in _ (by omega)
 have y3 : IntKind.i64.wrap 0 = 0 := IntWalk.i64_in _ (by omega)
 have y4 : wrap64 0 = 0 := IntWalk.wrap64_in _ (by omega)
 have j1 : ¬ (n : Int) < 1 := by omega
 have j2 : (kk : Int) ≤ (n : Int) := by omega
 have j3 : (kk : Int) ≤ (c : Int) := by omega
 have j4 : ¬ c = kk := by omega
 have j5 : n - kk = 1 := by omega
 have HK := Lh (And.intro hkk hn)
 clear h hl h4 gA hs hc hn hkk
 by_cases h1 : (k : Int) < u
 ·have hz1 : decide ((k : Int) < u) = true := decide_eq_true h1
  rw [if_pos h1] at HW
  rw [HW.out]
  clear HW hu b1 h1
  go_enter Tryz.func88, Tryz.ntmps88
  generalize hbx : w.heap.size = bx at *
  go_upto_region 10 with fail
  refine Hg (fun w' => Gr wA w') 14 ?_
  have hS : Gr wA wA.drew := (Gr.refl wA).drew
  refine H12 0 1 2 3 4 5 6 7 8 9 10 11 tv hS ?_; refine H2 12 13 tv hS ?_
  refine Hd ?_
  go_upto_region 11 with fail
  obtain ⟨wB, hwB⟩ : ∃ wB, wA.drew = wB := ⟨_, rfl⟩
  rw [hwB] at hS ⊢
  clear hwB
  refine Hg (fun w' => Gr wA w') 10 ?_
  have hS : Gr wA wB.drew := hS.drew
  refine H5 0 1 2 3 4 (c1 q1) hS ?_; refine H5 5 6 7 8 9 (c1 q1) hS ?_
  refine Hd ?_
  obtain ⟨wC, hwC⟩ : ∃ wC, wB.drew = wC := ⟨_, rfl⟩
  rw [hwC] at hS ⊢
  clear hwC
  replace z0 := hS.cell z0
  replace z1 := hS.cell z1
  replace z2 := hS.cell z2
  have hc1 : ∀ i, i < 1 → (wC.alloc (.cells #[.int .i64 (u)] 3)).cell? ⟨wC.heap.size, 0 + i, none⟩ = some (.int .i64 (iv [u] i)) := fun i hi => by
   obtain rfl : i = 0 := by omega
   exact cell_new1 wC _ 3
  have HC1 := Lh hc1
  have HO1 := Lh (HT.out.gr (hS.trans ((Gr.refl wC).alloc (.cells #[.int .i64 (u)] 3))))
  have HG2 := Lh (HG.out.trans (hS.trans ((Gr.refl wC).alloc (.cells #[.int .i64 (u)] 3))))
  clear hc1 hS q1 e1 e2 j2 j3 j4 j5
  go_wp2_with (at_builtin; go_must (refine wpList_cat_ints rfl _ _ rfl _ (L.take kk) [u] rfl HO1.out wC.heap.size 0 1 1 rfl rfl HC1.out (by rw [List.length_take]; have := HL.out; have := HK.out; omega) ?_); intro v' w2 h2 g2; have HVs := Lh (show ∃ va vn vc, v' = .slice va vn vc from by (obtain ⟨va, vc, hv9, _, _⟩ := h2.rd; exact ⟨_, _, _, hv9⟩)); have HH2 := Lh h2; have G2 := Lh g2; clear h2 g2)
  refine bodyPost_ret (v := .tuple #[v', .bool true]) (by simp [results, Tryz.results88, go_sem]) rfl ?_
  exact ⟨v', true, rfl, HVs.out, HH2.out.2, grown_trans (grows' HG2.out) G2.out, rfl, HH2.out⟩
 have hz1 : decide ((k : Int) < u) = false := decide_eq_false h1
 rw [if_neg h1] at HW
 rw [HW.out]
 clear HW hu b1 h1
 go_enter Tryz.func88, Tryz.ntmps88
 generalize hbx : w.heap.size = bx at *
 go_upto_region 10 with fail
 refine Hg (fun w' => Gr wA w') 14 ?_
 have hS : Gr wA wA.drew := (Gr.refl wA).drew
 refine H12 0 1 2 3 4 5 6 7 8 9 10 11 tv hS ?_; refine H2 12 13 tv hS ?_
 refine Hd ?_
 go_upto_region 11 with fail
 obtain ⟨wB, hwB⟩ : ∃ wB, wA.drew = wB := ⟨_, rfl⟩
 rw [hwB] at hS ⊢
 clear hwB
 refine Hg (fun w' => Gr wA w') 10 ?_
 have hS : Gr wA wB.drew := hS.drew
 refine H5 0 1 2 3 4 (c1 q1) hS ?_; refine H5 5 6 7 8 9 (c1 q1) hS ?_
 refine Hd ?_
 obtain ⟨wC, hwC⟩ : ∃ wC, wB.drew = wC := ⟨_, rfl⟩
 rw [hwC] at hS ⊢
 clear hwC
 replace z0 := hS.cell z0
 replace z1 := hS.cell z1
 replace z2 := hS.cell z2
 have hc1 : ∀ i, i < 1 → (wC.alloc (.cells #[.int .i64 (u)] 3)).cell? ⟨wC.heap.size, 0 + i, none⟩ = some (.int .i64 (iv [u] i)) := fun i hi => by
  obtain rfl : i = 0 := by omega
  exact cell_new1 wC _ 3
 have HC1 := Lh hc1
 have HO1 := Lh (HT.out.gr (hS.trans ((Gr.refl wC).alloc (.cells #[.int .i64 (u)] 3))))
 have HG2 := Lh (HG.out.trans (hS.trans ((Gr.refl wC).alloc (.cells #[.int .i64 (u)] 3))))
 clear hc1 hS q1 e1 e2 j2 j3 j4 j5
 go_wp2_with (at_builtin; go_must (refine wpList_cat_ints rfl _ _ rfl _ (L.take kk) [u] rfl HO1.out wC.heap.size 0 1 1 rfl rfl HC1.out (by rw [List.length_take]; have := HL.out; have := HK.out; omega) ?_); intro v' w2 h2 g2; have HVs := Lh (show ∃ va vn vc, v' = .slice va vn vc from by (obtain ⟨va, vc, hv9, _, _⟩ := h2.rd; exact ⟨_, _, _, hv9⟩)); have HH2 := Lh h2; have G2 := Lh g2; clear h2 g2)
 refine bodyPost_ret (v := .tuple #[v', .bool false]) (by simp [results, Tryz.results88, go_sem]) rfl ?_
 exact ⟨v', false, rfl, HVs.out, HH2.out.2, grown_trans (grows' HG2.out) G2.out, rfl⟩
theorem wide_same (w0 w : World) (k m : Nat) (at_ : Option Addr) (nt ct : Nat) (ws : List Int) (v : Value) (L : List Int) (h : OwnL w0 w v L) (hl : L.length ≤ 1000) (h4 : W14 L) :
  Calls Tryz.prog 88 #[.agg #[.int .i64 (stp (.same k m)).1, .int .i64 (stp (.same k m)).2.1, .int .i64 (stp (.same k m)).2.2], .slice at_ nt ct, v] w (RetWi w0 v (widW ws (.same k m) L) w) := by
 obtain ⟨wA, hwA⟩ : ∃ wA, w.alloc (.cells #[.int .i64 (stp (.same k m)).1, .int .i64 (stp (.same k m)).2.1, .int .i64 (stp (.same k m)).2.2] 103) = wA := ⟨_, rfl⟩
 have gA : Gr w wA := hwA ▸ (Gr.refl w).alloc _
 obtain ⟨z0, z1, z2⟩ := box_tri w (stp (.same k m)).1 (stp (.same k m)).2.1 (stp (.same k m)).2.2 103
 rw [hwA] at z0 z1 z2
 have HO := Lh (h.gr gA)
 have HL := Lh hl
 have HG := Lh gA
 simp only [stp] at z0 z1 z2 hwA ⊢
 by_cases hs : L.length < 1
 ·have hw : widW ws (.same k m) L = none := by
   unfold widW; simp only []; rw [if_pos hs]
  rw [hw]
  obtain ⟨a, c, rfl, _⟩ := h.rd
  generalize hn : L.length = n at *
  have i1 : (n : Int) < 1 := by omega
  clear h hl h4 gA hw hs
  go_enter Tryz.func88, Tryz.ntmps88
  generalize hbx : w.heap.size = bx at *
  go_wp2_with fail
  refine bodyPost_ret (v := .tuple #[.slice none 0 0, .bool false]) (by simp [results, Tryz.results88, go_sem]) rfl ?_
  exact ⟨_, false, rfl, ⟨_, _, _, rfl⟩, HO.out.2, grown_trans (grows' HG.out) (World.grownBy.refl _ _), rfl⟩
 obtain ⟨b, c, rfl, hc1, hc2, hc⟩ := HO.out.full (by omega)
 obtain ⟨kk, hkk⟩ : ∃ kk, L.length = kk + 1 := ⟨L.length - 1, by omega⟩
 have HT := Lh (HO.out.take (k := kk) (by omega) (fun e => by cases e))
 have q1 := hc kk (by omega)
 have q2 := hc (kk + 1 - 1) (by omega)
 have HW := Lh (show widW ws (.same k m) L = _ by unfold widW; simp only []; rw [if_neg hs, hkk])
 have b1 := h4.at (i := kk) (by omega)
 have b2 := h4.at (i := kk + 1 - 1) (by omega)
 rw [show kk + 1 - 1 = kk by omega] at HW
 clear q2 b2
 rw [show iv L kk = L.getD kk 0 from rfl] at q1
 skip
 generalize hu : L.getD kk 0 = u at *
 skip
 generalize hn : L.length = n at *
 have hn2 : n ≤ 1000 := hl
 have e1 : wrap64 ((n : Int) - 1) = (kk : Int) := by rw [IntWalk.wrap64_in _ (by omega)]; omega
 have e2 : IntKind.i64.wrap ((n : Int) - 1) = (kk : Int) := by rw [IntWalk.i64_in _ (by omega)]; omega
 have y1 : IntKind.i64.wrap 1 = 1 := IntWalk.i64_in _ (by omega)
 have y2 : wrap64 1 = 1 := IntWalk.wrap64_in _ (by omega)
 have y3 : IntKind.i64.wrap 0 = 0 := IntWalk.i64_in _ (by omega)
 have y4 : wrap64 0 = 0 := IntWalk.wrap64_in _ (by omega)
 have j1 : ¬ (n : Int) < 1 := by omega
 have j2 : (kk : Int) ≤ (n : Int) := by omega
 have j3 : (kk : Int) ≤ (c : Int) := by omega
 have j4 : ¬ c = kk := by omega
 have j5 : n - kk = 1 := by omega
 have HK := Lh (And.intro hkk hn)
 clear h hl h4 gA hs hc hn hkk
 by_cases h1 : (k : Int) < u
 focus
  have hz1 : decide ((k : Int) < u) = true := decide_eq_true h1
  by_cases h2 : (m : Int) < u
  ·have hz2 : decide ((m : Int) < u) = true := decide_eq_true h2
   rw [if_pos ⟨h1, h2⟩] at HW
   rw [HW.out]
   clear HW hu b1 h1 h2
   go_enter Tryz.func88, Tryz.ntmps88
   generalize hbx : w.heap.size = bx at *
   go_upto_region 10 with fail
   refine Hg (fun w' => Gr wA w') 14 ?_
   have hS : Gr wA wA.drew := (Gr.refl wA).drew
   refine H12 0 1 2 3 4 5 6 7 8 9 10 11 tv hS ?_; refine H2 12 13 tv hS ?_
   refine Hd ?_
   go_upto_region 11 with fail
   obtain ⟨wB, hwB⟩ : ∃ wB, wA.drew = wB := ⟨_, rfl⟩
   rw [hwB] at hS ⊢
   clear hwB
   refine Hg (fun w' => Gr wA w') 10 ?_
   have hS : Gr wA wB.drew := hS.drew
   refine H5 0 1 2 3 4 (c1 q1) hS ?_; refine H5 5 6 7 8 9 (c1 q1) hS ?_
   refine Hd ?_
   obtain ⟨wC, hwC⟩ : ∃ wC, wB.drew = wC := ⟨_, rfl⟩
   rw [hwC] at hS ⊢
   clear hwC
   replace z0 := hS.cell z0
   replace z1 := hS.cell z1
   replace z2 := hS.cell z2
   have hc1 : ∀ i, i < 1 → (wC.alloc (.cells #[.int .i64 (u)] 3)).cell? ⟨wC.heap.size, 0 + i, none⟩ = some (.int .i64 (iv [u] i)) := fun i hi => by
    obtain rfl : i = 0 := by omega
    exact cell_new1 wC _ 3
   have HC1 := Lh hc1
   have HO1 := Lh (HT.out.gr (hS.trans ((Gr.refl wC).alloc (.cells #[.int .i64 (u)] 3))))
   have HG2 := Lh (HG.out.trans (hS.trans ((Gr.refl wC).alloc (.cells #[.int .i64 (u)] 3))))
   clear hc1 hS q1 e1 e2 j2 j3 j4 j5
   go_wp2_with (at_builtin; go_must (refine wpList_cat_ints rfl _ _ rfl _ (L.take kk) [u] rfl HO1.out wC.heap.size 0 1 1 rfl rfl HC1.out (by rw [List.length_take]; have := HL.out; have := HK.out; omega) ?_); intro v' w2 h2 g2; have HVs := Lh (show ∃ va vn vc, v' = .slice va vn vc from by (obtain ⟨va, vc, hv9, _, _⟩ := h2.rd; exact ⟨_, _, _, hv9⟩)); have HH2 := Lh h2; have G2 := Lh g2; clear h2 g2)
   refine bodyPost_ret (v := .tuple #[v', .bool true]) (by simp [results, Tryz.results88, go_sem]) rfl ?_
   exact ⟨v', true, rfl, HVs.out, HH2.out.2, grown_trans (grows' HG2.out) G2.out, rfl, HH2.out⟩
  have hz2 : decide ((m : Int) < u) = false := decide_eq_false h2
  rw [if_neg (fun e => h2 e.2)] at HW
  rw [HW.out]
  clear HW hu b1 h1 h2
 rotate_left
 focus
  have hz1 : decide ((k : Int) < u) = false := decide_eq_false h1
  rw [if_neg (fun e => h1 e.1)] at HW
  rw [HW.out]
  clear HW hu b1 h1
 all_goals
  go_enter Tryz.func88, Tryz.ntmps88
  generalize hbx : w.heap.size = bx at *
  go_upto_region 10 with fail
  refine Hg (fun w' => Gr wA w') 14 ?_
  have hS : Gr wA wA.drew := (Gr.refl wA).drew
  refine H12 0 1 2 3 4 5 6 7 8 9 10 11 tv hS ?_; refine H2 12 13 tv hS ?_
  refine Hd ?_
  go_upto_region 11 with fail
  obtain ⟨wB, hwB⟩ : ∃ wB, wA.drew = wB := ⟨_, rfl⟩
  rw [hwB] at hS ⊢
  clear hwB
  refine Hg (fun w' => Gr wA w') 10 ?_
  have hS : Gr wA wB.drew := hS.drew
  refine H5 0 1 2 3 4 (c1 q1) hS ?_; refine H5 5 6 7 8 9 (c1 q1) hS ?_
  refine Hd ?_
  obtain ⟨wC, hwC⟩ : ∃ wC, wB.drew = wC := ⟨_, rfl⟩
  rw [hwC] at hS ⊢
  clear hwC
  replace z0 := hS.cell z0
  replace z1 := hS.cell z1
  replace z2 := hS.cell z2
  have hc1 : ∀ i, i < 1 → (wC.alloc (.cells #[.int .i64 (u)] 3)).cell? ⟨wC.heap.size, 0 + i, none⟩ = some (.int .i64 (iv [u] i)) := fun i hi => by
   obtain rfl : i = 0 := by omega
   exact cell_new1 wC _ 3
  have HC1 := Lh hc1
  have HO1 := Lh (HT.out.gr (hS.trans ((Gr.refl wC).alloc (.cells #[.int .i64 (u)] 3))))
  have HG2 := Lh (HG.out.trans (hS.trans ((Gr.refl wC).alloc (.cells #[.int .i64 (u)] 3))))
  clear hc1 hS q1 e1 e2 j2 j3 j4 j5
  go_wp2_with (at_builtin; go_must (refine wpList_cat_ints rfl _ _ rfl _ (L.take kk) [u] rfl HO1.out wC.heap.size 0 1 1 rfl rfl HC1.out (by rw [List.length_take]; have := HL.out; have := HK.out; omega) ?_); intro v' w2 h2 g2; have HVs := Lh (show ∃ va vn vc, v' = .slice va vn vc from by (obtain ⟨va, vc, hv9, _, _⟩ := h2.rd; exact ⟨_, _, _, hv9⟩)); have HH2 := Lh h2; have G2 := Lh g2; clear h2 g2)
  refine bodyPost_ret (v := .tuple #[v', .bool false]) (by simp [results, Tryz.results88, go_sem]) rfl ?_
  exact ⟨v', false, rfl, HVs.out, HH2.out.2, grown_trans (grows' HG2.out) G2.out, rfl⟩
theorem wide_any (w0 w : World) (s : Wd) (at_ : Option Addr) (nt ct : Nat) (Ts : List (Int × Tbl SL)) (v : Value) (L : List Int) (hr : RdWs w at_ nt ct Ts) (h : OwnL w0 w v L) (hl : L.length ≤ 1000) (h4 : W14 L) :
  Calls Tryz.prog 88 #[.agg #[.int .i64 (stp s).1, .int .i64 (stp s).2.1, .int .i64 (stp s).2.2], .slice at_ nt ct, v] w (RetWi w0 v (widW (wsOf Ts) s L) w) := by
 cases s with
 | put k => exact wide_put w0 w k at_ nt ct Ts v L hr h hl
 | orr => exact wide_orr w0 w at_ nt ct _ v L h hl h4
 | byy => exact wide_byy w0 w at_ nt ct _ v L h hl h4
 | drop k => exact wide_drop w0 w k at_ nt ct _ v L h hl h4
 | pick k m => exact wide_pick w0 w k m at_ nt ct _ v L h hl h4
 | same k m => exact wide_same w0 w k m at_ nt ct _ v L h hl h4
end Go.Proofs.YtehdemcfeoiecaaGreatDoor
