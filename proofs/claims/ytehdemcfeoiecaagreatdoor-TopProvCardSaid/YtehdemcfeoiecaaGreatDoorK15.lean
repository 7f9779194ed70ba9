import Derived.Lib.AtoiAllCases
import Derived.Test.YtehdemcfeoiecaaGreatDoorK13
set_option maxHeartbeats 64000000
set_option maxRecDepth 100000
namespace Go.Proofs.YtehdemcfeoiecaaGreatDoor
open Go.RowKit Go.Firn Go.Firn.Tb
def RetPa (x : Key) (w : World) (e : Ending) (w' : World) : Prop := ∃ a b c ok, e = .returned (.tuple #[.agg #[.int .i64 a, .int .i64 b, .int .i64 c], .bool ok]) ∧ Gr w w' ∧ (match wdOf x with
 | some wd => ok = true ∧ (a, b, c) = stp wd
 | none => ok = false)
def Lg (x : Key) : Prop := x ≠ [65] ∧ x ≠ [66] ∧ x ≠ [67] ∧ x ≠ [68] ∧ x ≠ [111, 114] ∧ x ≠ [98, 121]
theorem Lg.wd {x : Key} (h : Lg x) : wdOf x = if x.take 4 = dropK then wdDrop (x.drop 4) else if x.take 4 = sameK then wdSame (x.drop 4) else if x.take 4 = pickK then wdPick (x.drop 4) else none := by
 obtain ⟨h1, h2, h3, h4, h5, h6⟩ := h
 unfold wdOf
 rw [if_neg h1, if_neg h2, if_neg h3, if_neg h4, if_neg h5, if_neg h6]
theorem ne_text {x K : Key} (h : x ≠ K) : ((bA x).toList == K) = false := by
 rw [ByteArray.toList_eq]
 simpa [bA] using h
theorem put3 {w w7 : World} {b : Nat} {u0 u1 u2 : Value} (g : Gr w w7) (hb : w.heap.size ≤ b) (x0 : w7.cell? ⟨b, 0, none⟩ = some u0) (x1 : w7.cell? ⟨b, 1, none⟩ = some u1) (x2 : w7.cell? ⟨b, 2, none⟩ = some u2) (v0 v1 v2 : Value) :
  ∃ W, ((w7.setCell ⟨b, 0, none⟩ v0).setCell ⟨b, 1, none⟩ v1).setCell ⟨b, 2, none⟩ v2 = W ∧ Gr w W ∧ W.cell? ⟨b, 0, none⟩ = some v0 ∧ W.cell? ⟨b, 1, none⟩ = some v1 ∧ W.cell? ⟨b, 2, none⟩ = some v2 := by
 refine ⟨_, rfl, ?_, ?_, ?_, ?_⟩
 ·exact Gr.setAt (Gr.setAt (Gr.setAt g hb _) hb _) hb _
 ·rw [World.cell?_setCell_other _ _ _ _ (by simp), World.cell?_setCell_other _ _ _ _ (by simp)]
  exact cell_near x0 _
 ·rw [World.cell?_setCell_other _ _ _ _ (by simp)]
  exact cell_near (by rw [World.cell?_setCell_other _ _ _ _ (by simp)]; exact x1) _
 exact cell_near (by rw [World.cell?_setCell_other _ _ _ _ (by simp), World.cell?_setCell_other _ _ _ _ (by simp)]; exact x2) _
theorem dgK_yes {d : UInt8} (h : isDg d = true) : dgK [d] = (dgv d : Int) := by unfold dgK; simp only []; rw [if_pos h]
theorem dgK_no {d : UInt8} (h : ¬ isDg d = true) : dgK [d] = -1 := by unfold dgK; simp only []; rw [if_neg h]
def St3 (w : World) (b : Nat) : Prop := (∃ u0 u1 u2, w.cell? ⟨b, 0, none⟩ = some u0 ∧ w.cell? ⟨b, 1, none⟩ = some u1 ∧ w.cell? ⟨b, 2, none⟩ = some u2) ∧ w.frozen? ⟨b, 0, none⟩ = false ∧ w.frozen? ⟨b, 1, none⟩ = false ∧ w.frozen? ⟨b, 2, none⟩ = false
theorem St3.gr {w w' : World} {b : Nat} (h : St3 w b) (g : Gr w w') : St3 w' b := by
 obtain ⟨⟨u0, u1, u2, h0, h1, h2⟩, f0, f1, f2⟩ := h
 exact ⟨⟨u0, u1, u2, g.cell h0, g.cell h1, g.cell h2⟩, (Below.frozen g (World.block_lt_of_cell? w _ h0)).trans f0, (Below.frozen g (World.block_lt_of_cell? w _ h1)).trans f1, (Below.frozen g (World.block_lt_of_cell? w _ h2)).trans f2⟩
theorem St3.new {w w' : World} {v0 v1 v2 : Value} {e : TypeId} (g : Gr (w.alloc (.cells #[v0, v1, v2] e)) w') : St3 w' w.heap.size := by
 obtain ⟨x0, f0⟩ := g.fresh' (b := w.heap.size) (j := 0) rfl rfl
 obtain ⟨x1, f1⟩ := g.fresh' (b := w.heap.size) (j := 1) rfl rfl
 obtain ⟨x2, f2⟩ := g.fresh' (b := w.heap.size) (j := 2) rfl rfl
 exact ⟨⟨_, _, _, x0, x1, x2⟩, f0, f1, f2⟩
theorem St3.set {w : World} {b : Nat} (h : St3 w b) (v0 v1 v2 : Value) : St3 (((w.setCell ⟨b, 0, none⟩ v0).setCell ⟨b, 1, none⟩ v1).setCell ⟨b, 2, none⟩ v2) b := by
 obtain ⟨⟨u0, u1, u2, x0, x1, x2⟩, f0, f1, f2⟩ := h
 refine ⟨⟨v0, v1, v2, ?_, ?_, ?_⟩, ?_, ?_, ?_⟩
 ·rw [World.cell?_setCell_other _ _ _ _ (by simp), World.cell?_setCell_other _ _ _ _ (by simp)]
  exact cell_near x0 _
 ·rw [World.cell?_setCell_other _ _ _ _ (by simp)]
  exact cell_near (by rw [World.cell?_setCell_other _ _ _ _ (by simp)]; exact x1) _
 ·exact cell_near (by rw [World.cell?_setCell_other _ _ _ _ (by simp), World.cell?_setCell_other _ _ _ _ (by simp)]; exact x2) _
 ·rw [World.frozen?_setCell, World.frozen?_setCell, World.frozen?_setCell]; exact f0
 ·rw [World.frozen?_setCell, World.frozen?_setCell, World.frozen?_setCell]; exact f1
 rw [World.frozen?_setCell, World.frozen?_setCell, World.frozen?_setCell]; exact f2
theorem wd_drop (r : Key) : (match wdDrop r with
 | some wd => decide (0 ≤ dgK r) = true ∧ ((3 : Int), dgK r, (0 : Int)) = stp wd
 | none => decide (0 ≤ dgK r) = false) := by
 by_cases h : ∃ d, r = [d]
 ·obtain ⟨d, rfl⟩ := h
  by_cases hd : isDg d = true
  ·have e1 : wdDrop [d] = some (.drop (dgv d)) := by unfold wdDrop; simp only []; rw [if_pos hd]
   rw [e1, dgK_yes hd]
   exact ⟨by simp, rfl⟩
  have e1 : wdDrop [d] = none := by unfold wdDrop; simp only []; rw [if_neg hd]
  rw [e1, dgK_no hd]
  rfl
 have e1 : wdDrop r = none := by
  unfold wdDrop
  split
  ·exact absurd ⟨_, rfl⟩ h
  rfl
 have e2 : dgK r = -1 := by
  unfold dgK
  split
  ·exact absurd ⟨_, rfl⟩ h
  rfl
 rw [e1, e2]
 rfl
theorem parse_A (w : World) : Calls Tryz.prog 87 #[.string ⟨#[65]⟩] w (RetPa [65] w) := by
 go_enter Tryz.func87, Tryz.ntmps87
 go_wp2_with fail
 refine bodyPost_ret (v := .tuple #[.agg #[.int .i64 0, .int .i64 0, .int .i64 0], .bool true]) (by simp [results, Tryz.results87, go_sem]; try rfl) rfl ?_
 exact ⟨0, 0, 0, true, rfl, (Gr.refl w).alloc _, rfl, rfl⟩
theorem parse_B (w : World) : Calls Tryz.prog 87 #[.string ⟨#[66]⟩] w (RetPa [66] w) := by
 go_enter Tryz.func87, Tryz.ntmps87
 go_wp2_with fail
 refine bodyPost_ret (v := .tuple #[.agg #[.int .i64 0, .int .i64 1, .int .i64 0], .bool true]) (by simp [results, Tryz.results87, go_sem]; try rfl) rfl ?_
 exact ⟨0, 1, 0, true, rfl, (Gr.refl w).alloc _, rfl, rfl⟩
theorem parse_C (w : World) : Calls Tryz.prog 87 #[.string ⟨#[67]⟩] w (RetPa [67] w) := by
 go_enter Tryz.func87, Tryz.ntmps87
 go_wp2_with fail
 refine bodyPost_ret (v := .tuple #[.agg #[.int .i64 0, .int .i64 2, .int .i64 0], .bool true]) (by simp [results, Tryz.results87, go_sem]; try rfl) rfl ?_
 exact ⟨0, 2, 0, true, rfl, (Gr.refl w).alloc _, rfl, rfl⟩
theorem parse_D (w : World) : Calls Tryz.prog 87 #[.string ⟨#[68]⟩] w (RetPa [68] w) := by
 go_enter Tryz.func87, Tryz.ntmps87
 go_wp2_with fail
 refine bodyPost_ret (v := .tuple #[.agg #[.int .i64 0, .int .i64 3, .int .i64 0], .bool true]) (by simp [results, Tryz.results87, go_sem]; try rfl) rfl ?_
 exact ⟨0, 3, 0, true, rfl, (Gr.refl w).alloc _, rfl, rfl⟩
theorem parse_or (w : World) : Calls Tryz.prog 87 #[.string ⟨#[111, 114]⟩] w (RetPa [111, 114] w) := by
 go_enter Tryz.func87, Tryz.ntmps87
 go_wp2_with fail
 refine bodyPost_ret (v := .tuple #[.agg #[.int .i64 1, .int .i64 0, .int .i64 0], .bool true]) (by simp [results, Tryz.results87, go_sem]; try rfl) rfl ?_
 exact ⟨1, 0, 0, true, rfl, (Gr.refl w).alloc _, rfl, rfl⟩
theorem parse_by (w : World) : Calls Tryz.prog 87 #[.string ⟨#[98, 121]⟩] w (RetPa [98, 121] w) := by
 go_enter Tryz.func87, Tryz.ntmps87
 go_wp2_with fail
 refine bodyPost_ret (v := .tuple #[.agg #[.int .i64 2, .int .i64 0, .int .i64 0], .bool true]) (by simp [results, Tryz.results87, go_sem]; try rfl) rfl ?_
 exact ⟨2, 0, 0, true, rfl, (Gr.refl w).alloc _, rfl, rfl⟩
theorem parse_drop (x : Key) (w : World) (hx : x.length ≤ 1000000) (hl : Lg x) (hd : x.take 4 = dropK) : Calls Tryz.prog 87 #[.string (bA x)] w (RetPa x w) := by
 have t1 := ne_text hl.1
 have t2 := ne_text hl.2.1
 have t3 := ne_text hl.2.2.1
 have t4 := ne_text hl.2.2.2.1
 have t5 := ne_text hl.2.2.2.2.1
 have t6 := ne_text hl.2.2.2.2.2
 have C := Lh (show ∀ w, Calls Tryz.prog 120 #[.string (bA x), .string ⟨#[100, 114, 111, 112]⟩] w fun e w' => e = .returned (.tuple #[.string (bA (x.drop 4)), .bool true]) ∧ Gr w w' from fun w => by
  have := cutp_any x dropK w
  rw [show dropK.length = 4 from rfl, if_pos hd, decide_eq_true hd] at this
  exact this)
 have D := Lh (fun w => digit_any (x.drop 4) w (by rw [List.length_drop]; omega))
 have HW := Lh (show (match wdOf x with
  | some wd => decide (0 ≤ dgK (x.drop 4)) = true ∧ ((3 : Int), dgK (x.drop 4), (0 : Int)) = stp wd
  | none => decide (0 ≤ dgK (x.drop 4)) = false) by rw [hl.wd, if_pos hd]; exact wd_drop _)
 have G0 := Lh ((Gr.refl w).alloc (.cells #[.int .i64 0, .int .i64 0, .int .i64 0] 103))
 clear hx hl hd
 generalize dgK (x.drop 4) = q at *
 generalize bA (x.drop 4) = u at *
 generalize bA x = s at *
 go_enter Tryz.func87, Tryz.ntmps87
 go_wp2_with (first
  | (go_at_call 120; (with_reducible refine (C.out _).mono ?_); rintro e w6 ⟨rfl, g6⟩; have HG6 := Lh (G0.out.trans g6); obtain ⟨x0, f0⟩ := g6.fresh' (b := w.heap.size) (j := 0) rfl rfl; obtain ⟨x1, f1⟩ := g6.fresh' (b := w.heap.size) (j := 1) rfl rfl; obtain ⟨x2, f2⟩ := g6.fresh' (b := w.heap.size) (j := 2) rfl rfl; clear g6)
  | (go_at_call 121; (with_reducible refine (D.out _).mono ?_); rintro e w7 ⟨rfl, rfl⟩))
 obtain ⟨W, hW, gW, y0, y1, y2⟩ := put3 HG6.out (Nat.le_refl _) x0 x1 x2 (.int .i64 3) (.int .i64 q) (.int .i64 0)
 rw [hW]
 refine bodyPost_ret (v := .tuple #[.agg #[.int .i64 3, .int .i64 q, .int .i64 0], .bool (decide (0 ≤ q))]) (by simp [results, Tryz.results87, go_sem, y0, y1, y2]) rfl ?_
 exact ⟨3, q, 0, _, rfl, gW, HW.out⟩
theorem parse_none (x : Key) (w : World) (hl : Lg x) (hd : ¬ x.take 4 = dropK) (hs : ¬ x.take 4 = sameK) (hp : ¬ x.take 4 = pickK) : Calls Tryz.prog 87 #[.string (bA x)] w (RetPa x w) := by
 have t1 := ne_text hl.1
 have t2 := ne_text hl.2.1
 have t3 := ne_text hl.2.2.1
 have t4 := ne_text hl.2.2.2.1
 have t5 := ne_text hl.2.2.2.2.1
 have t6 := ne_text hl.2.2.2.2.2
 have C1 := Lh (show ∀ w, Calls Tryz.prog 120 #[.string (bA x), .string ⟨#[100, 114, 111, 112]⟩] w fun e w' => e = .returned (.tuple #[.string (bA x), .bool false]) ∧ Gr w w' from fun w => by
  have := cutp_any x dropK w
  rw [show dropK.length = 4 from rfl, if_neg hd, decide_eq_false hd] at this
  exact this)
 have C2 := Lh (show ∀ w, Calls Tryz.prog 120 #[.string (bA x), .string ⟨#[115, 97, 109, 101]⟩] w fun e w' => e = .returned (.tuple #[.string (bA (x)), .bool false]) ∧ Gr w w' from fun w => by
  have := cutp_any x sameK w
  rw [show sameK.length = 4 from rfl, if_neg hs, decide_eq_false hs] at this
  exact this)
 have C3 := Lh (show ∀ w, Calls Tryz.prog 120 #[.string (bA x), .string ⟨#[112, 105, 99, 107]⟩] w fun e w' => e = .returned (.tuple #[.string (bA (x)), .bool false]) ∧ Gr w w' from fun w => by
  have := cutp_any x pickK w
  rw [show pickK.length = 4 from rfl, if_neg hp, decide_eq_false hp] at this
  exact this)
 have G0 := Lh ((Gr.refl w).alloc (.cells #[.int .i64 0, .int .i64 0, .int .i64 0] 103))
 have HW := Lh (show wdOf x = none by rw [hl.wd, if_neg hd, if_neg hs, if_neg hp])
 clear hl hd hs hp
 generalize bA x = s at *
 go_enter Tryz.func87, Tryz.ntmps87
 go_wp2_with (first
  | (go_at_call 120; (with_reducible refine (C1.out _).mono ?_); rintro e w6 ⟨rfl, g6⟩; have HG6 := Lh (G0.out.trans g6); have GB6 := Lh g6; clear g6 C1)
  | (go_at_call 120; (with_reducible refine (C2.out _).mono ?_); rintro e w7 ⟨rfl, g7⟩; have HG7 := Lh (HG6.out.trans g7); have GB7 := Lh (GB6.out.trans g7); clear g7 C2)
  | (go_at_call 120; (with_reducible refine (C3.out _).mono ?_); rintro e w8 ⟨rfl, g8⟩; have HG8 := Lh (HG7.out.trans g8); have GB8 := Lh (GB7.out.trans g8); clear g8 C3; obtain ⟨x0, f0⟩ := GB8.out.fresh' (b := w.heap.size) (j := 0) rfl rfl; obtain ⟨x1, f1⟩ := GB8.out.fresh' (b := w.heap.size) (j := 1) rfl rfl; obtain ⟨x2, f2⟩ := GB8.out.fresh' (b := w.heap.size) (j := 2) rfl rfl))
 obtain ⟨W, hW, gW, y0, y1, y2⟩ := put3 HG8.out (Nat.le_refl _) x0 x1 x2 (.int .i64 0) (.int .i64 0) (.int .i64 0)
 rw [hW]
 refine bodyPost_ret (v := .tuple #[.agg #[.int .i64 0, .int .i64 0, .int .i64 0], .bool false]) (by simp [results, Tryz.results87, go_sem, y0, y1, y2]) rfl ?_
 exact ⟨0, 0, 0, _, rfl, gW, by rw [HW.out]⟩
theorem wd_same2 {r : Key} (h : r.length ≠ 2) : wdSame r = none := by
 unfold wdSame
 split
 ·exact absurd rfl h
 rfl
theorem parse_sameX (x : Key) (w : World) (hl : Lg x) (hs : x.take 4 = sameK) (h2 : (x.drop 4).length ≠ 2) : Calls Tryz.prog 87 #[.string (bA x)] w (RetPa x w) := by
 have hd : ¬ x.take 4 = dropK := by rw [hs]; decide
 have hp : ¬ x.take 4 = pickK := by rw [hs]; decide
 have t1 := ne_text hl.1
 have t2 := ne_text hl.2.1
 have t3 := ne_text hl.2.2.1
 have t4 := ne_text hl.2.2.2.1
 have t5 := ne_text hl.2.2.2.2.1
 have t6 := ne_text hl.2.2.2.2.2
 have C1 := Lh (show ∀ w, Calls Tryz.prog 120 #[.string (bA x), .string ⟨#[100, 114, 111, 112]⟩] w fun e w' => e = .returned (.tuple #[.string (bA x), .bool false]) ∧ Gr w w' from fun w => by
  have := cutp_any x dropK w
  rw [show dropK.length = 4 from rfl, if_neg hd, decide_eq_false hd] at this
  exact this)
 have C2 := Lh (show ∀ w, Calls Tryz.prog 120 #[.string (bA x), .string ⟨#[115, 97, 109, 101]⟩] w fun e w' => e = .returned (.tuple #[.string (bA (x.drop 4)), .bool true]) ∧ Gr w w' from fun w => by
  have := cutp_any x sameK w
  rw [show sameK.length = 4 from rfl, if_pos hs, decide_eq_true hs] at this
  exact this)
 have C3 := Lh (show ∀ w, Calls Tryz.prog 120 #[.string (bA x), .string ⟨#[112, 105, 99, 107]⟩] w fun e w' => e = .returned (.tuple #[.string (bA (x)), .bool false]) ∧ Gr w w' from fun w => by
  have := cutp_any x pickK w
  rw [show pickK.length = 4 from rfl, if_neg hp, decide_eq_false hp] at this
  exact this)
 have G0 := Lh ((Gr.refl w).alloc (.cells #[.int .i64 0, .int .i64 0, .int .i64 0] 103))
 have HW := Lh (show wdOf x = none by rw [hl.wd, if_neg hd, if_pos hs, wd_same2 h2])
 have z1 : (((bA (x.drop 4)).size : Int) == 2) = false := by rw [bA_size]; simp; simp at h2; omega
 clear hl hd hs hp h2
 generalize bA (x.drop 4) = u at *
 generalize bA x = s at *
 go_enter Tryz.func87, Tryz.ntmps87
 go_wp2_with (first
  | (go_at_call 120; (with_reducible refine (C1.out _).mono ?_); rintro e w6 ⟨rfl, g6⟩; have HG6 := Lh (G0.out.trans g6); have GB6 := Lh g6; clear g6 C1)
  | (go_at_call 120; (with_reducible refine (C2.out _).mono ?_); rintro e w7 ⟨rfl, g7⟩; have HG7 := Lh (HG6.out.trans g7); have GB7 := Lh (GB6.out.trans g7); clear g7 C2)
  | (go_at_call 120; (with_reducible refine (C3.out _).mono ?_); rintro e w8 ⟨rfl, g8⟩; have HG8 := Lh (HG7.out.trans g8); have GB8 := Lh (GB7.out.trans g8); clear g8 C3; obtain ⟨x0, f0⟩ := GB8.out.fresh' (b := w.heap.size) (j := 0) rfl rfl; obtain ⟨x1, f1⟩ := GB8.out.fresh' (b := w.heap.size) (j := 1) rfl rfl; obtain ⟨x2, f2⟩ := GB8.out.fresh' (b := w.heap.size) (j := 2) rfl rfl))
 obtain ⟨W, hW, gW, y0, y1, y2⟩ := put3 HG8.out (Nat.le_refl _) x0 x1 x2 (.int .i64 0) (.int .i64 0) (.int .i64 0)
 rw [hW]
 refine bodyPost_ret (v := .tuple #[.agg #[.int .i64 0, .int .i64 0, .int .i64 0], .bool false]) (by simp [results, Tryz.results87, go_sem, y0, y1, y2]) rfl ?_
 exact ⟨0, 0, 0, _, rfl, gW, by rw [HW.out]⟩
theorem wd_same (d e : UInt8) : wdSame [d, e] = if isDg d && isDg e then some (.same (dgv d) (dgv e)) else none := rfl
theorem two_ext (d e : UInt8) : (bA [d, e]).extract 0 1 = bA [d] ∧ (bA [d, e]).extract 1 2 = bA [e] ∧ (bA [d, e]).size = 2 := by
 refine ⟨?_, ?_, rfl⟩
 ·rw [ext_key']; rfl
 rw [ext_key']; rfl
theorem wd_same3 (d e : UInt8) : (match wdSame [d, e] with
 | some wd => (decide (0 ≤ dgK [d]) && decide (0 ≤ dgK [e])) = true ∧ ((5 : Int), dgK [d], dgK [e]) = stp wd
 | none => (decide (0 ≤ dgK [d]) && decide (0 ≤ dgK [e])) = false) := by
 rw [wd_same]
 by_cases hd : isDg d = true
 ·by_cases he : isDg e = true
  ·rw [hd, he, dgK_yes hd, dgK_yes he]
   exact ⟨by simp, rfl⟩
  have he' : isDg e = false := by simpa using he
  rw [hd, he', dgK_yes hd, dgK_no he]
  simp
 have hd' : isDg d = false := by simpa using hd
 rw [hd', dgK_no hd]
 simp
theorem parse_same (x : Key) (w : World) (d e : UInt8) (hl : Lg x) (hs : x.take 4 = sameK) (h2 : x.drop 4 = [d, e]) : Calls Tryz.prog 87 #[.string (bA x)] w (RetPa x w) := by
 have hd : ¬ x.take 4 = dropK := by rw [hs]; decide
 have t1 := ne_text hl.1
 have t2 := ne_text hl.2.1
 have t3 := ne_text hl.2.2.1
 have t4 := ne_text hl.2.2.2.1
 have t5 := ne_text hl.2.2.2.2.1
 have t6 := ne_text hl.2.2.2.2.2
 have C1 := Lh (show ∀ w, Calls Tryz.prog 120 #[.string (bA x), .string ⟨#[100, 114, 111, 112]⟩] w fun e w' => e = .returned (.tuple #[.string (bA x), .bool false]) ∧ Gr w w' from fun w => by
  have := cutp_any x dropK w
  rw [show dropK.length = 4 from rfl, if_neg hd, decide_eq_false hd] at this
  exact this)
 have C2 := Lh (show ∀ w, Calls Tryz.prog 120 #[.string (bA x), .string ⟨#[115, 97, 109, 101]⟩] w fun e w' => e = .returned (.tuple #[.string (bA (x.drop 4)), .bool true]) ∧ Gr w w' from fun w => by
  have := cutp_any x sameK w
  rw [show sameK.length = 4 from rfl, if_pos hs, decide_eq_true hs] at this
  exact this)
 have G0 := Lh ((Gr.refl w).alloc (.cells #[.int .i64 0, .int .i64 0, .int .i64 0] 103))
 have HW := Lh (show (match wdOf x with
  | some wd => (decide (0 ≤ dgK [d]) && decide (0 ≤ dgK [e])) = true ∧ ((5 : Int), dgK [d], dgK [e]) = stp wd
  | none => (decide (0 ≤ dgK [d]) && decide (0 ≤ dgK [e])) = false) by rw [hl.wd, if_neg hd, if_pos hs, h2]; exact wd_same3 d e)
 have D1 := Lh (fun w => digit_any [d] w (by simp))
 have D2 := Lh (fun w => digit_any [e] w (by simp))
 obtain ⟨u1, u2, u3⟩ := two_ext d e
 have u4 : ((bA [d, e]).size : Int) = 2 := by rw [u3]; rfl
 rw [h2] at C2
 clear hl hd hs h2
 generalize bA [d, e] = u at *
 generalize bA [d] = ud at *
 generalize bA [e] = ue at *
 generalize dgK [d] = qd at *
 generalize dgK [e] = qe at *
 generalize bA x = s at *
 go_enter Tryz.func87, Tryz.ntmps87
 by_cases h0 : 0 ≤ qd
 ·have z0 : decide (0 ≤ qd) = true := decide_eq_true h0
  go_wp2_with (first
   | (go_at_call 120; (with_reducible refine (C1.out _).mono ?_); rintro e w6 ⟨rfl, g6⟩; have HG6 := Lh (G0.out.trans g6); have GB6 := Lh g6; clear g6 C1)
   | (go_at_call 120; (with_reducible refine (C2.out _).mono ?_); rintro e w7 ⟨rfl, g7⟩; have HG7 := Lh (HG6.out.trans g7); have GB7 := Lh (GB6.out.trans g7); clear g7 C2; obtain ⟨x0, f0⟩ := GB7.out.fresh' (b := w.heap.size) (j := 0) rfl rfl; obtain ⟨x1, f1⟩ := GB7.out.fresh' (b := w.heap.size) (j := 1) rfl rfl; obtain ⟨x2, f2⟩ := GB7.out.fresh' (b := w.heap.size) (j := 2) rfl rfl)
   | fail)
  generalize hb9 : w.heap.size = b9 at *
  refine Hg (fun w' => Gr w w' ∧ St3 w' b9) 19 ?_
  have hS : Gr w w7.drew ∧ St3 w7.drew b9 := ⟨HG7.out.drew, hb9 ▸ (St3.new GB7.out).gr ((Gr.refl _).drew)⟩
  obtain ⟨wX, hwX⟩ : ∃ wX, w7.drew = wX := ⟨_, rfl⟩
  rw [hwX] at hS ⊢
  clear hwX
  refine H5 0 1 3 4 7 tv hS ?_; refine H1 8 tv hS ?_
  refine Hr 2 rfl (fun K hK => ?_)
  go_simp
  refine ⟨trivial, ?_⟩
  refine (callsIn_wide.2 (D1.out _)).mono ?_
  rintro e wX ⟨rfl, rfl⟩
  refine hK.out _ _ hS ?_
  clear hK K
  refine Hr 5 rfl (fun K hK => ?_)
  go_simp
  refine ⟨trivial, ?_⟩
  refine (callsIn_wide.2 (D2.out _)).mono ?_
  rintro e wX ⟨rfl, rfl⟩
  refine hK.out _ _ hS ?_
  clear hK K
  refine H1 6 tv hS ?_
  refine Hr 9 rfl (fun K hK => ?_)
  go_simp
  refine ⟨trivial, ?_⟩
  refine (callsIn_wide.2 (D1.out _)).mono ?_
  rintro e wX ⟨rfl, rfl⟩
  refine hK.out _ _ hS ?_
  clear hK K
  refine H4 10 11 12 13 tv hS ?_
  refine Hr 14 rfl (fun K hK => ?_)
  go_simp
  refine ⟨trivial, ?_⟩
  refine (callsIn_wide.2 (D2.out _)).mono ?_
  rintro e wX ⟨rfl, rfl⟩
  refine hK.out _ _ hS ?_
  clear hK K
  refine H2 15 16 tv hS ?_
  obtain ⟨⟨m0, m1, m2, v0, v1, v2⟩, l0, l1, l2⟩ := hS.2
  obtain ⟨W, hW, gW, y0, y1, y2⟩ := put3 hS.1 (Nat.le_of_eq hb9) v0 v1 v2 (.int .i64 5) (.int .i64 qd) (.int .i64 qe)
  have hSW : Gr w W ∧ St3 W b9 := ⟨gW, hW ▸ hS.2.set _ _ _⟩
  refine Hr 17 rfl (fun K hK => ?_)
  go_simp
  try rw [hW]
  refine hK.out _ _ hSW ?_
  clear hK K hS
  have hS := hSW
  refine Hr 18 rfl (fun K hK => ?_)
  go_simp
  refine hK.out _ _ hS ?_
  clear hK K
  refine Hd ?_
  go_wp2_with fail
  refine bodyPost_ret (v := .tuple #[.agg #[.int .i64 5, .int .i64 qd, .int .i64 qe], .bool (decide (0 ≤ qe))]) (by simp [results, Tryz.results87, go_sem, y0, y1, y2]) rfl ?_
  exact ⟨5, qd, qe, _, rfl, gW, by rw [z0, Bool.true_and] at HW; exact HW.out⟩
 have z0 : decide (0 ≤ qd) = false := decide_eq_false h0
 go_wp2_with (first
  | (go_at_call 120; (with_reducible refine (C1.out _).mono ?_); rintro e w6 ⟨rfl, g6⟩; have HG6 := Lh (G0.out.trans g6); have GB6 := Lh g6; clear g6 C1)
  | (go_at_call 120; (with_reducible refine (C2.out _).mono ?_); rintro e w7 ⟨rfl, g7⟩; have HG7 := Lh (HG6.out.trans g7); have GB7 := Lh (GB6.out.trans g7); clear g7 C2; obtain ⟨x0, f0⟩ := GB7.out.fresh' (b := w.heap.size) (j := 0) rfl rfl; obtain ⟨x1, f1⟩ := GB7.out.fresh' (b := w.heap.size) (j := 1) rfl rfl; obtain ⟨x2, f2⟩ := GB7.out.fresh' (b := w.heap.size) (j := 2) rfl rfl)
  | fail)
 generalize hb9 : w.heap.size = b9 at *
 refine Hg (fun w' => Gr w w' ∧ St3 w' b9) 19 ?_
 have hS : Gr w w7.drew ∧ St3 w7.drew b9 := ⟨HG7.out.drew, hb9 ▸ (St3.new GB7.out).gr ((Gr.refl _).drew)⟩
 obtain ⟨wX, hwX⟩ : ∃ wX, w7.drew = wX := ⟨_, rfl⟩
 rw [hwX] at hS ⊢
 clear hwX
 refine H5 0 1 3 4 7 tv hS ?_; refine H1 8 tv hS ?_
 refine Hr 2 rfl (fun K hK => ?_)
 go_simp
 refine ⟨trivial, ?_⟩
 refine (callsIn_wide.2 (D1.out _)).mono ?_
 rintro e wX ⟨rfl, rfl⟩
 refine hK.out _ _ hS ?_
 clear hK K
 refine Hr 5 rfl (fun K hK => ?_)
 go_simp
 refine ⟨trivial, ?_⟩
 refine (callsIn_wide.2 (D2.out _)).mono ?_
 rintro e wX ⟨rfl, rfl⟩
 refine hK.out _ _ hS ?_
 clear hK K
 refine H1 6 tv hS ?_
 refine Hr 9 rfl (fun K hK => ?_)
 go_simp
 refine ⟨trivial, ?_⟩
 refine (callsIn_wide.2 (D1.out _)).mono ?_
 rintro e wX ⟨rfl, rfl⟩
 refine hK.out _ _ hS ?_
 clear hK K
 refine H2 10 11 tv hS ?_; refine Hs4 12 13 14 15 hS ?_; refine H1 16 tv hS ?_
 obtain ⟨⟨m0, m1, m2, v0, v1, v2⟩, l0, l1, l2⟩ := hS.2
 obtain ⟨W, hW, gW, y0, y1, y2⟩ := put3 hS.1 (Nat.le_of_eq hb9) v0 v1 v2 (.int .i64 5) (.int .i64 qd) (.int .i64 qe)
 have hSW : Gr w W ∧ St3 W b9 := ⟨gW, hW ▸ hS.2.set _ _ _⟩
 refine Hr 17 rfl (fun K hK => ?_)
 go_simp
 try rw [hW]
 refine hK.out _ _ hSW ?_
 clear hK K hS
 have hS := hSW
 refine Hr 18 rfl (fun K hK => ?_)
 go_simp
 refine hK.out _ _ hS ?_
 clear hK K
 refine Hd ?_
 go_wp2_with fail
 refine bodyPost_ret (v := .tuple #[.agg #[.int .i64 5, .int .i64 qd, .int .i64 qe], .bool false]) (by simp [results, Tryz.results87, go_sem, y0, y1, y2]) rfl ?_
 exact ⟨5, qd, qe, _, rfl, gW, by rw [z0, Bool.false_and] at HW; exact HW.out⟩
theorem pick_is (r : Key) : wdPick r = if 0 ≤ dgK (cutA r) then (numO (cutB r)).map (.pick (dgK (cutA r)).toNat) else none := by
 have n0 : numO [] = none := rfl
 match r with
 | [] => rfl
 | [d] =>
  have e : cutB [d] = [] := by
   unfold cutB
   by_cases h : d = 61
   ·subst h; rfl
   rw [List.dropWhile_cons, if_pos (ne_eq' h)]; rfl
  rw [e, n0]
  show none = _
  split <;> rfl
 | d :: c :: t =>
  by_cases hd : d = 61
  ·subst hd
   have e : dgK (cutA (61 :: c :: t)) = -1 := rfl
   rw [e, if_neg (by decide)]
   rfl
  by_cases hc : c = 61
  ·subst hc
   obtain ⟨e1, e2⟩ := cut_word (d := [d]) (e := t) (by simpa using fun h => hd h.symm)
   have e1' : cutA (d :: 61 :: t) = [d] := e1
   have e2' : cutB (d :: 61 :: t) = t := e2
   rw [e1', e2']
   unfold wdPick
   simp only []
   by_cases h : isDg d = true
   ·rw [dgK_yes h, h, if_pos (by simp), if_pos (by omega)]; rfl
   have h' : isDg d = false := by simpa using h
   rw [dgK_no h, h', if_neg (by simp), if_neg (by decide)]
  have e1 : cutA (d :: c :: t) = d :: c :: cutA t := by
   unfold cutA
   rw [List.takeWhile_cons, if_pos (ne_eq' hd), List.takeWhile_cons, if_pos (ne_eq' hc)]
  have e2 : dgK (d :: c :: cutA t) = -1 := rfl
  rw [e1, e2, if_neg (by decide)]
  unfold wdPick
  simp only []
  rw [if_neg (by simp [hc])]
theorem pick_none {r : Key} (h : (∀ v, Lib.atoiAll (cutB r) ≠ .ok v) ∨ (∃ v, Lib.atoiAll (cutB r) = .ok v ∧ (Lib.itoa v ≠ cutB r ∨ ¬ (-999 ≤ v ∧ v ≤ 999))) ∨ ¬ 0 ≤ dgK (cutA r)) : wdPick r = none := by
 rw [pick_is]
 rcases h with h | ⟨v, hv, h⟩ | h
 ·have : numO (cutB r) = none := by
   unfold numO
   split
   ·rename_i n hn; exact absurd hn (h n)
   rfl
  rw [this]; split <;> rfl
 ·have : numO (cutB r) = none := by
   unfold numO
   rw [hv]
   simp only []
   rw [if_neg]
   rintro ⟨k1, k2⟩
   rcases h with h | h
   ·exact h k1
   exact h k2
  rw [this]; split <;> rfl
 rw [if_neg h]
theorem pick_some {r : Key} {v : Int} (hv : Lib.atoiAll (cutB r) = .ok v) (h1 : Lib.itoa v = cutB r) (h2 : -999 ≤ v ∧ v ≤ 999) (h3 : 0 ≤ dgK (cutA r)) : ∃ wd, wdPick r = some wd ∧ ((4 : Int), dgK (cutA r), v) = stp wd := by
 refine ⟨.pick (dgK (cutA r)).toNat v, ?_, ?_⟩
 ·rw [pick_is, if_pos h3]
  have : numO (cutB r) = some v := by
   unfold numO
   rw [hv]
   simp only []
   rw [if_pos ⟨h1, h2⟩]
  rw [this]; rfl
 show _ = ((4 : Int), ((dgK (cutA r)).toNat : Int), v)
 rw [Int.toNat_of_nonneg h3]
theorem parse_pickA (x : Key) (w : World) (hE : Errs w) (hx : x.length ≤ 1000000) (hl : Lg x) (hp : x.take 4 = pickK) (hv : ∀ v, Lib.atoiAll (cutB (x.drop 4)) ≠ .ok v) : Calls Tryz.prog 87 #[.string (bA x)] w (RetPa x w) := by
 have hd : ¬ x.take 4 = dropK := by rw [hp]; decide
 have hs : ¬ x.take 4 = sameK := by rw [hp]; decide
 have t1 := ne_text hl.1
 have t2 := ne_text hl.2.1
 have t3 := ne_text hl.2.2.1
 have t4 := ne_text hl.2.2.2.1
 have t5 := ne_text hl.2.2.2.2.1
 have t6 := ne_text hl.2.2.2.2.2
 have C1 := Lh (show ∀ w, Calls Tryz.prog 120 #[.string (bA x), .string ⟨#[100, 114, 111, 112]⟩] w fun e w' => e = .returned (.tuple #[.string (bA x), .bool false]) ∧ Gr w w' from fun w => by
  have := cutp_any x dropK w
  rw [show dropK.length = 4 from rfl, if_neg hd, decide_eq_false hd] at this
  exact this)
 have C2 := Lh (show ∀ w, Calls Tryz.prog 120 #[.string (bA x), .string ⟨#[115, 97, 109, 101]⟩] w fun e w' => e = .returned (.tuple #[.string (bA (x)), .bool false]) ∧ Gr w w' from fun w => by
  have := cutp_any x sameK w
  rw [show sameK.length = 4 from rfl, if_neg hs, decide_eq_false hs] at this
  exact this)
 have C3 := Lh (show ∀ w, Calls Tryz.prog 120 #[.string (bA x), .string ⟨#[112, 105, 99, 107]⟩] w fun e w' => e = .returned (.tuple #[.string (bA (x.drop 4)), .bool true]) ∧ Gr w w' from fun w => by
  have := cutp_any x pickK w
  rw [show pickK.length = 4 from rfl, if_pos hp, decide_eq_true hp] at this
  exact this)
 have G0 := Lh ((Gr.refl w).alloc (.cells #[.int .i64 0, .int .i64 0, .int .i64 0] 103))
 have hxd : (x.drop 4).length ≤ 1000000 := by rw [List.length_drop]; omega
 have CC := Lh (fun w => Cut_any (x.drop 4) hxd w)
 have hcl := cut_le (x.drop 4)
 have DA := Lh (fun w => digit_any (cutA (x.drop 4)) w (by omega))
 have HWd := Lh (show wdOf x = wdPick (x.drop 4) by rw [hl.wd, if_neg hd, if_neg hs, if_pos hp])
 have CA := Lh (fun W (k : Gr w W) => atoi_not (cutB (x.drop 4)) hv (by omega) W (hE.gr k))
 have HW := Lh (show wdOf x = none by rw [HWd.out]; exact pick_none (.inl hv))
 clear HWd hv hE
 unfold RetCut at CC
 clear hx hl hd hs hp hxd hcl
 generalize dgK (cutA (x.drop 4)) = qa at *
 generalize bA (cutA (x.drop 4)) = ua at *
 generalize bA (cutB (x.drop 4)) = ub at *
 generalize bA (x.drop 4) = u at *
 generalize bA x = s at *
 go_enter Tryz.func87, Tryz.ntmps87
 go_wp2_with (first
  | (go_at_call 120; (with_reducible refine (C1.out _).mono ?_); rintro e w6 ⟨rfl, g6⟩; have HG6 := Lh (G0.out.trans g6); have GB6 := Lh g6; clear g6 C1)
  | (go_at_call 120; (with_reducible refine (C2.out _).mono ?_); rintro e w7 ⟨rfl, g7⟩; have HG7 := Lh (HG6.out.trans g7); have GB7 := Lh (GB6.out.trans g7); clear g7 C2)
  | (go_at_call 120; (with_reducible refine (C3.out _).mono ?_); rintro e w8 ⟨rfl, g8⟩; have HG8 := Lh (HG7.out.trans g8); have GB8 := Lh (GB7.out.trans g8); clear g8 C3)
  | (go_at_call 122; (with_reducible refine (CC.out _).mono ?_); rintro e w9 ⟨f9, rfl, g9⟩; have HG9 := Lh (HG8.out.trans g9); have GB9 := Lh (GB8.out.trans g9); clear g9 CC)
  | (go_at_call 123; (with_reducible refine (CA.out _ HG9.out).mono ?_); rintro e w10 ⟨⟨v, N, rfl⟩, g10⟩; have HG10 := Lh (HG9.out.trans g10); have GB10 := Lh (GB9.out.trans g10); clear g10 CA))
 generalize hb9 : w.heap.size = b9 at *
 refine Hg (fun w' => Gr w w' ∧ St3 w' b9) 23 ?_
 have hS : Gr w w10.drew ∧ St3 w10.drew b9 := ⟨HG10.out.drew, hb9 ▸ (St3.new GB10.out).gr ((Gr.refl _).drew)⟩
 obtain ⟨wX, hwX⟩ : ∃ wX, w10.drew = wX := ⟨_, rfl⟩
 rw [hwX] at hS ⊢
 clear hwX
 refine H4 0 2 4 5 tv hS ?_
 refine Hr 1 rfl (fun K hK => ?_)
 go_simp
 refine ⟨trivial, ?_⟩
 refine (callsIn_wide.2 (DA.out _)).mono ?_
 rintro e wX ⟨rfl, rfl⟩
 refine hK.out _ _ hS ?_
 clear hK K
 refine H2 3 6 tv hS ?_; refine Hs4 7 8 9 10 hS ?_; refine H2 11 12 tv hS ?_; refine Hs2 13 14 hS ?_; refine H2 15 16 tv hS ?_; refine Hs2 17 18 hS ?_; refine Hs1 19 hS ?_; refine H1 20 tv hS ?_
 obtain ⟨⟨m0, m1, m2, v0, v1, v2⟩, l0, l1, l2⟩ := hS.2
 obtain ⟨W, hW, gW, y0, y1, y2⟩ := put3 hS.1 (Nat.le_of_eq hb9) v0 v1 v2 (.int .i64 4) (.int .i64 qa) (.int .i64 v)
 have hSW : Gr w W ∧ St3 W b9 := ⟨gW, hW ▸ hS.2.set _ _ _⟩
 refine Hr 21 rfl (fun K hK => ?_)
 go_simp
 try rw [hW]
 refine hK.out _ _ hSW ?_
 clear hK K hS
 have hS := hSW
 refine Hr 22 rfl (fun K hK => ?_)
 go_simp
 refine hK.out _ _ hS ?_
 clear hK K
 refine Hd ?_
 go_wp2_with fail
 refine bodyPost_ret (v := .tuple #[.agg #[.int .i64 4, .int .i64 qa, .int .i64 v], .bool false]) (by simp [results, Tryz.results87, go_sem, y0, y1, y2]) rfl ?_
 exact ⟨4, qa, v, _, rfl, gW, by rw [HW.out]⟩
theorem parse_pickB (x : Key) (w : World) (hT : Pow10 w) (hx : x.length ≤ 1000000) (hl : Lg x) (hp : x.take 4 = pickK) (v : Int) (hv : Lib.atoiAll (cutB (x.drop 4)) = .ok v) (hr : -9223372036854775808 ≤ v ∧ v ≤ 9223372036854775807) (hi : Lib.itoa v ≠ cutB (x.drop 4)) : Calls Tryz.prog 87 #[.string (bA x)] w (RetPa x w) := by
 have hd : ¬ x.take 4 = dropK := by rw [hp]; decide
 have hs : ¬ x.take 4 = sameK := by rw [hp]; decide
 have t1 := ne_text hl.1
 have t2 := ne_text hl.2.1
 have t3 := ne_text hl.2.2.1
 have t4 := ne_text hl.2.2.2.1
 have t5 := ne_text hl.2.2.2.2.1
 have t6 := ne_text hl.2.2.2.2.2
 have C1 := Lh (show ∀ w, Calls Tryz.prog 120 #[.string (bA x), .string ⟨#[100, 114, 111, 112]⟩] w fun e w' => e = .returned (.tuple #[.string (bA x), .bool false]) ∧ Gr w w' from fun w => by
  have := cutp_any x dropK w
  rw [show dropK.length = 4 from rfl, if_neg hd, decide_eq_false hd] at this
  exact this)
 have C2 := Lh (show ∀ w, Calls Tryz.prog 120 #[.string (bA x), .string ⟨#[115, 97, 109, 101]⟩] w fun e w' => e = .returned (.tuple #[.string (bA (x)), .bool false]) ∧ Gr w w' from fun w => by
  have := cutp_any x sameK w
  rw [show sameK.length = 4 from rfl, if_neg hs, decide_eq_false hs] at this
  exact this)
 have C3 := Lh (show ∀ w, Calls Tryz.prog 120 #[.string (bA x), .string ⟨#[112, 105, 99, 107]⟩] w fun e w' => e = .returned (.tuple #[.string (bA (x.drop 4)), .bool true]) ∧ Gr w w' from fun w => by
  have := cutp_any x pickK w
  rw [show pickK.length = 4 from rfl, if_pos hp, decide_eq_true hp] at this
  exact this)
 have G0 := Lh ((Gr.refl w).alloc (.cells #[.int .i64 0, .int .i64 0, .int .i64 0] 103))
 have hxd : (x.drop 4).length ≤ 1000000 := by rw [List.length_drop]; omega
 have CC := Lh (fun w => Cut_any (x.drop 4) hxd w)
 have hcl := cut_le (x.drop 4)
 have DA := Lh (fun w => digit_any (cutA (x.drop 4)) w (by omega))
 have HWd := Lh (show wdOf x = wdPick (x.drop 4) by rw [hl.wd, if_neg hd, if_neg hs, if_pos hp])
 have CA := Lh (fun W (_ : Gr w W) => atoi_yes (cutB (x.drop 4)) v hv (by omega) W)
 have CI := Lh (fun W (k : Gr w W) => itoa_any v hr.1 hr.2 W (hT.gr k))
 have hcmp : ((bA (Lib.itoa v)).toList == (bA (cutB (x.drop 4))).toList) = false := by
  rw [ByteArray.toList_eq, ByteArray.toList_eq]
  simpa [bA] using hi
 have HW := Lh (show wdOf x = none by rw [HWd.out]; exact pick_none (.inr (.inl ⟨v, hv, .inl hi⟩)))
 clear HWd hv hT hi hr
 unfold RetCut at CC
 unfold RetT at CI
 clear hx hl hd hs hp hxd hcl
 generalize dgK (cutA (x.drop 4)) = qa at *
 generalize bA (cutA (x.drop 4)) = ua at *
 generalize bA (cutB (x.drop 4)) = ub at *
 generalize bA (x.drop 4) = u at *
 generalize bA x = s at *
 generalize bA (Lib.itoa v) = uv at *
 go_enter Tryz.func87, Tryz.ntmps87
 go_wp2_with (first
  | (go_at_call 120; (with_reducible refine (C1.out _).mono ?_); rintro e w6 ⟨rfl, g6⟩; have HG6 := Lh (G0.out.trans g6); have GB6 := Lh g6; clear g6 C1)
  | (go_at_call 120; (with_reducible refine (C2.out _).mono ?_); rintro e w7 ⟨rfl, g7⟩; have HG7 := Lh (HG6.out.trans g7); have GB7 := Lh (GB6.out.trans g7); clear g7 C2)
  | (go_at_call 120; (with_reducible refine (C3.out _).mono ?_); rintro e w8 ⟨rfl, g8⟩; have HG8 := Lh (HG7.out.trans g8); have GB8 := Lh (GB7.out.trans g8); clear g8 C3)
  | (go_at_call 122; (with_reducible refine (CC.out _).mono ?_); rintro e w9 ⟨f9, rfl, g9⟩; have HG9 := Lh (HG8.out.trans g9); have GB9 := Lh (GB8.out.trans g9); clear g9 CC)
  | (go_at_call 123; (with_reducible refine (CA.out _ HG9.out).mono ?_); rintro e w10 ⟨rfl, g10⟩; have HG10 := Lh (HG9.out.trans g10); have GB10 := Lh (GB9.out.trans g10); clear g10 CA))
 generalize hb9 : w.heap.size = b9 at *
 refine Hg (fun w' => Gr w w' ∧ St3 w' b9) 23 ?_
 have hS : Gr w w10.drew ∧ St3 w10.drew b9 := ⟨HG10.out.drew, hb9 ▸ (St3.new GB10.out).gr ((Gr.refl _).drew)⟩
 obtain ⟨wX, hwX⟩ : ∃ wX, w10.drew = wX := ⟨_, rfl⟩
 rw [hwX] at hS ⊢
 clear hwX
 refine H4 0 2 4 5 tv hS ?_
 refine Hr 1 rfl (fun K hK => ?_)
 go_simp
 refine ⟨trivial, ?_⟩
 refine (callsIn_wide.2 (DA.out _)).mono ?_
 rintro e wX ⟨rfl, rfl⟩
 refine hK.out _ _ hS ?_
 clear hK K
 refine H4 3 6 7 9 tv hS ?_
 refine Hr 8 rfl (fun K hK => ?_)
 go_simp
 refine ⟨trivial, ?_⟩
 refine (callsIn_wide.2 (CI.out _ hS.1)).mono ?_
 rintro e wX ⟨rfl, gX⟩
 have hS : Gr w wX ∧ St3 wX b9 := ⟨hS.1.trans gX, hS.2.gr gX⟩
 refine hK.out _ _ hS ?_
 clear hK K gX
 refine H3 10 11 12 tv hS ?_; refine Hs2 13 14 hS ?_; refine H2 15 16 tv hS ?_; refine Hs2 17 18 hS ?_; refine Hs1 19 hS ?_; refine H1 20 tv hS ?_
 obtain ⟨⟨m0, m1, m2, v0, v1, v2⟩, l0, l1, l2⟩ := hS.2
 obtain ⟨W, hW, gW, y0, y1, y2⟩ := put3 hS.1 (Nat.le_of_eq hb9) v0 v1 v2 (.int .i64 4) (.int .i64 qa) (.int .i64 v)
 have hSW : Gr w W ∧ St3 W b9 := ⟨gW, hW ▸ hS.2.set _ _ _⟩
 refine Hr 21 rfl (fun K hK => ?_)
 go_simp
 try rw [hW]
 refine hK.out _ _ hSW ?_
 clear hK K hS
 have hS := hSW
 refine Hr 22 rfl (fun K hK => ?_)
 go_simp
 refine hK.out _ _ hS ?_
 clear hK K
 refine Hd ?_
 go_wp2_with fail
 refine bodyPost_ret (v := .tuple #[.agg #[.int .i64 4, .int .i64 qa, .int .i64 v], .bool false]) (by simp [results, Tryz.results87, go_sem, y0, y1, y2]) rfl ?_
 exact ⟨4, qa, v, _, rfl, gW, by rw [HW.out]⟩
theorem parse_pickC (x : Key) (w : World) (hT : Pow10 w) (hx : x.length ≤ 1000000) (hl : Lg x) (hp : x.take 4 = pickK) (v : Int) (hv : Lib.atoiAll (cutB (x.drop 4)) = .ok v) (hr : -9223372036854775808 ≤ v ∧ v ≤ 9223372036854775807) (hi : Lib.itoa v = cutB (x.drop 4)) (hb : ¬ (-999 ≤ v ∧ v ≤ 999)) : Calls Tryz.prog 87 #[.string (bA x)] w (RetPa x w) := by
 have hd : ¬ x.take 4 = dropK := by rw [hp]; decide
 have hs : ¬ x.take 4 = sameK := by rw [hp]; decide
 have t1 := ne_text hl.1
 have t2 := ne_text hl.2.1
 have t3 := ne_text hl.2.2.1
 have t4 := ne_text hl.2.2.2.1
 have t5 := ne_text hl.2.2.2.2.1
 have t6 := ne_text hl.2.2.2.2.2
 have C1 := Lh (show ∀ w, Calls Tryz.prog 120 #[.string (bA x), .string ⟨#[100, 114, 111, 112]⟩] w fun e w' => e = .returned (.tuple #[.string (bA x), .bool false]) ∧ Gr w w' from fun w => by
  have := cutp_any x dropK w
  rw [show dropK.length = 4 from rfl, if_neg hd, decide_eq_false hd] at this
  exact this)
 have C2 := Lh (show ∀ w, Calls Tryz.prog 120 #[.string (bA x), .string ⟨#[115, 97, 109, 101]⟩] w fun e w' => e = .returned (.tuple #[.string (bA (x)), .bool false]) ∧ Gr w w' from fun w => by
  have := cutp_any x sameK w
  rw [show sameK.length = 4 from rfl, if_neg hs, decide_eq_false hs] at this
  exact this)
 have C3 := Lh (show ∀ w, Calls Tryz.prog 120 #[.string (bA x), .string ⟨#[112, 105, 99, 107]⟩] w fun e w' => e = .returned (.tuple #[.string (bA (x.drop 4)), .bool true]) ∧ Gr w w' from fun w => by
  have := cutp_any x pickK w
  rw [show pickK.length = 4 from rfl, if_pos hp, decide_eq_true hp] at this
  exact this)
 have G0 := Lh ((Gr.refl w).alloc (.cells #[.int .i64 0, .int .i64 0, .int .i64 0] 103))
 have hxd : (x.drop 4).length ≤ 1000000 := by rw [List.length_drop]; omega
 have CC := Lh (fun w => Cut_any (x.drop 4) hxd w)
 have hcl := cut_le (x.drop 4)
 have DA := Lh (fun w => digit_any (cutA (x.drop 4)) w (by omega))
 have HWd := Lh (show wdOf x = wdPick (x.drop 4) by rw [hl.wd, if_neg hd, if_neg hs, if_pos hp])
 have CA := Lh (fun W (_ : Gr w W) => atoi_yes (cutB (x.drop 4)) v hv (by omega) W)
 have CI := Lh (fun W (k : Gr w W) => itoa_any v hr.1 hr.2 W (hT.gr k))
 have hcmp : ((bA (Lib.itoa v)).toList == (bA (cutB (x.drop 4))).toList) = true := by rw [hi]; simp
 have CBt := Lh (show ∀ w, Calls Tryz.prog 56 #[.int .i64 (-999), .int .i64 v, .int .i64 999] w fun e w' => e = .returned (.bool false) ∧ w' = w from fun w => by
  have := between_any (-999) v 999 w
  rw [show btw (-999) v 999 = false by unfold btw; simp; omega] at this
  exact this.mono fun e w' h => ⟨h.1, by first | exact h.2 | exact h.2.symm⟩)
 have HW := Lh (show wdOf x = none by rw [HWd.out]; exact pick_none (.inr (.inl ⟨v, hv, .inr hb⟩)))
 clear HWd hv hT hi hb hr
 unfold RetCut at CC
 unfold RetT at CI
 clear hx hl hd hs hp hxd hcl
 generalize dgK (cutA (x.drop 4)) = qa at *
 generalize bA (cutA (x.drop 4)) = ua at *
 generalize bA (cutB (x.drop 4)) = ub at *
 generalize bA (x.drop 4) = u at *
 generalize bA x = s at *
 generalize bA (Lib.itoa v) = uv at *
 go_enter Tryz.func87, Tryz.ntmps87
 go_wp2_with (first
  | (go_at_call 120; (with_reducible refine (C1.out _).mono ?_); rintro e w6 ⟨rfl, g6⟩; have HG6 := Lh (G0.out.trans g6); have GB6 := Lh g6; clear g6 C1)
  | (go_at_call 120; (with_reducible refine (C2.out _).mono ?_); rintro e w7 ⟨rfl, g7⟩; have HG7 := Lh (HG6.out.trans g7); have GB7 := Lh (GB6.out.trans g7); clear g7 C2)
  | (go_at_call 120; (with_reducible refine (C3.out _).mono ?_); rintro e w8 ⟨rfl, g8⟩; have HG8 := Lh (HG7.out.trans g8); have GB8 := Lh (GB7.out.trans g8); clear g8 C3)
  | (go_at_call 122; (with_reducible refine (CC.out _).mono ?_); rintro e w9 ⟨f9, rfl, g9⟩; have HG9 := Lh (HG8.out.trans g9); have GB9 := Lh (GB8.out.trans g9); clear g9 CC)
  | (go_at_call 123; (with_reducible refine (CA.out _ HG9.out).mono ?_); rintro e w10 ⟨rfl, g10⟩; have HG10 := Lh (HG9.out.trans g10); have GB10 := Lh (GB9.out.trans g10); clear g10 CA))
 generalize hb9 : w.heap.size = b9 at *
 refine Hg (fun w' => Gr w w' ∧ St3 w' b9) 23 ?_
 have hS : Gr w w10.drew ∧ St3 w10.drew b9 := ⟨HG10.out.drew, hb9 ▸ (St3.new GB10.out).gr ((Gr.refl _).drew)⟩
 obtain ⟨wX, hwX⟩ : ∃ wX, w10.drew = wX := ⟨_, rfl⟩
 rw [hwX] at hS ⊢
 clear hwX
 refine H4 0 2 4 5 tv hS ?_
 refine Hr 1 rfl (fun K hK => ?_)
 go_simp
 refine ⟨trivial, ?_⟩
 refine (callsIn_wide.2 (DA.out _)).mono ?_
 rintro e wX ⟨rfl, rfl⟩
 refine hK.out _ _ hS ?_
 clear hK K
 refine H4 3 6 7 9 tv hS ?_
 refine Hr 8 rfl (fun K hK => ?_)
 go_simp
 refine ⟨trivial, ?_⟩
 refine (callsIn_wide.2 (CI.out _ hS.1)).mono ?_
 rintro e wX ⟨rfl, gX⟩
 have hS : Gr w wX ∧ St3 wX b9 := ⟨hS.1.trans gX, hS.2.gr gX⟩
 refine hK.out _ _ hS ?_
 clear hK K gX
 refine H4 10 11 12 13 tv hS ?_
 refine Hr 14 rfl (fun K hK => ?_)
 go_simp
 refine ⟨trivial, ?_⟩
 refine (callsIn_wide.2 (CBt.out _)).mono ?_
 rintro e wX ⟨rfl, rfl⟩
 refine hK.out _ _ hS ?_
 clear hK K
 refine H2 15 16 tv hS ?_; refine Hs2 17 18 hS ?_; refine Hs1 19 hS ?_; refine H1 20 tv hS ?_
 obtain ⟨⟨m0, m1, m2, v0, v1, v2⟩, l0, l1, l2⟩ := hS.2
 obtain ⟨W, hW, gW, y0, y1, y2⟩ := put3 hS.1 (Nat.le_of_eq hb9) v0 v1 v2 (.int .i64 4) (.int .i64 qa) (.int .i64 v)
 have hSW : Gr w W ∧ St3 W b9 := ⟨gW, hW ▸ hS.2.set _ _ _⟩
 refine Hr 21 rfl (fun K hK => ?_)
 go_simp
 try rw [hW]
 refine hK.out _ _ hSW ?_
 clear hK K hS
 have hS := hSW
 refine Hr 22 rfl (fun K hK => ?_)
 go_simp
 refine hK.out _ _ hS ?_
 clear hK K
 refine Hd ?_
 go_wp2_with fail
 refine bodyPost_ret (v := .tuple #[.agg #[.int .i64 4, .int .i64 qa, .int .i64 v], .bool false]) (by simp [results, Tryz.results87, go_sem, y0, y1, y2]) rfl ?_
 exact ⟨4, qa, v, _, rfl, gW, by rw [HW.out]⟩
theorem parse_pickD (x : Key) (w : World) (hT : Pow10 w) (hx : x.length ≤ 1000000) (hl : Lg x) (hp : x.take 4 = pickK) (v : Int) (hv : Lib.atoiAll (cutB (x.drop 4)) = .ok v) (hr : -9223372036854775808 ≤ v ∧ v ≤ 9223372036854775807) (hi : Lib.itoa v = cutB (x.drop 4)) (hb : -999 ≤ v ∧ v ≤ 999) (hq : ¬ 0 ≤ dgK (cutA (x.drop 4))) : Calls Tryz.prog 87 #[.string (bA x)] w (RetPa x w) := by
 have hd : ¬ x.take 4 = dropK := by rw [hp]; decide
 have hs : ¬ x.take 4 = sameK := by rw [hp]; decide
 have t1 := ne_text hl.1
 have t2 := ne_text hl.2.1
 have t3 := ne_text hl.2.2.1
 have t4 := ne_text hl.2.2.2.1
 have t5 := ne_text hl.2.2.2.2.1
 have t6 := ne_text hl.2.2.2.2.2
 have C1 := Lh (show ∀ w, Calls Tryz.prog 120 #[.string (bA x), .string ⟨#[100, 114, 111, 112]⟩] w fun e w' => e = .returned (.tuple #[.string (bA x), .bool false]) ∧ Gr w w' from fun w => by
  have := cutp_any x dropK w
  rw [show dropK.length = 4 from rfl, if_neg hd, decide_eq_false hd] at this
  exact this)
 have C2 := Lh (show ∀ w, Calls Tryz.prog 120 #[.string (bA x), .string ⟨#[115, 97, 109, 101]⟩] w fun e w' => e = .returned (.tuple #[.string (bA (x)), .bool false]) ∧ Gr w w' from fun w => by
  have := cutp_any x sameK w
  rw [show sameK.length = 4 from rfl, if_neg hs, decide_eq_false hs] at this
  exact this)
 have C3 := Lh (show ∀ w, Calls Tryz.prog 120 #[.string (bA x), .string ⟨#[112, 105, 99, 107]⟩] w fun e w' => e = .returned (.tuple #[.string (bA (x.drop 4)), .bool true]) ∧ Gr w w' from fun w => by
  have := cutp_any x pickK w
  rw [show pickK.length = 4 from rfl, if_pos hp, decide_eq_true hp] at this
  exact this)
 have G0 := Lh ((Gr.refl w).alloc (.cells #[.int .i64 0, .int .i64 0, .int .i64 0] 103))
 have hxd : (x.drop 4).length ≤ 1000000 := by rw [List.length_drop]; omega
 have CC := Lh (fun w => Cut_any (x.drop 4) hxd w)
 have hcl := cut_le (x.drop 4)
 have DA := Lh (fun w => digit_any (cutA (x.drop 4)) w (by omega))
 have HWd := Lh (show wdOf x = wdPick (x.drop 4) by rw [hl.wd, if_neg hd, if_neg hs, if_pos hp])
 have CA := Lh (fun W (_ : Gr w W) => atoi_yes (cutB (x.drop 4)) v hv (by omega) W)
 have CI := Lh (fun W (k : Gr w W) => itoa_any v hr.1 hr.2 W (hT.gr k))
 have hcmp : ((bA (Lib.itoa v)).toList == (bA (cutB (x.drop 4))).toList) = true := by rw [hi]; simp
 have CBt := Lh (show ∀ w, Calls Tryz.prog 56 #[.int .i64 (-999), .int .i64 v, .int .i64 999] w fun e w' => e = .returned (.bool true) ∧ w' = w from fun w => by
  have := between_any (-999) v 999 w
  rw [show btw (-999) v 999 = true by unfold btw; simp; omega] at this
  exact this.mono fun e w' h => ⟨h.1, by first | exact h.2 | exact h.2.symm⟩)
 have z5 : decide (0 ≤ dgK (cutA (x.drop 4))) = false := decide_eq_false hq
 have HW := Lh (show wdOf x = none by rw [HWd.out]; exact pick_none (.inr (.inr hq)))
 clear HWd hv hT hi hb hq hr
 unfold RetCut at CC
 unfold RetT at CI
 clear hx hl hd hs hp hxd hcl
 generalize dgK (cutA (x.drop 4)) = qa at *
 generalize bA (cutA (x.drop 4)) = ua at *
 generalize bA (cutB (x.drop 4)) = ub at *
 generalize bA (x.drop 4) = u at *
 generalize bA x = s at *
 generalize bA (Lib.itoa v) = uv at *
 go_enter Tryz.func87, Tryz.ntmps87
 go_wp2_with (first
  | (go_at_call 120; (with_reducible refine (C1.out _).mono ?_); rintro e w6 ⟨rfl, g6⟩; have HG6 := Lh (G0.out.trans g6); have GB6 := Lh g6; clear g6 C1)
  | (go_at_call 120; (with_reducible refine (C2.out _).mono ?_); rintro e w7 ⟨rfl, g7⟩; have HG7 := Lh (HG6.out.trans g7); have GB7 := Lh (GB6.out.trans g7); clear g7 C2)
  | (go_at_call 120; (with_reducible refine (C3.out _).mono ?_); rintro e w8 ⟨rfl, g8⟩; have HG8 := Lh (HG7.out.trans g8); have GB8 := Lh (GB7.out.trans g8); clear g8 C3)
  | (go_at_call 122; (with_reducible refine (CC.out _).mono ?_); rintro e w9 ⟨f9, rfl, g9⟩; have HG9 := Lh (HG8.out.trans g9); have GB9 := Lh (GB8.out.trans g9); clear g9 CC)
  | (go_at_call 123; (with_reducible refine (CA.out _ HG9.out).mono ?_); rintro e w10 ⟨rfl, g10⟩; have HG10 := Lh (HG9.out.trans g10); have GB10 := Lh (GB9.out.trans g10); clear g10 CA))
 generalize hb9 : w.heap.size = b9 at *
 refine Hg (fun w' => Gr w w' ∧ St3 w' b9) 23 ?_
 have hS : Gr w w10.drew ∧ St3 w10.drew b9 := ⟨HG10.out.drew, hb9 ▸ (St3.new GB10.out).gr ((Gr.refl _).drew)⟩
 obtain ⟨wX, hwX⟩ : ∃ wX, w10.drew = wX := ⟨_, rfl⟩
 rw [hwX] at hS ⊢
 clear hwX
 refine H4 0 2 4 5 tv hS ?_
 refine Hr 1 rfl (fun K hK => ?_)
 go_simp
 refine ⟨trivial, ?_⟩
 refine (callsIn_wide.2 (DA.out _)).mono ?_
 rintro e wX ⟨rfl, rfl⟩
 refine hK.out _ _ hS ?_
 clear hK K
 refine H4 3 6 7 9 tv hS ?_
 refine Hr 8 rfl (fun K hK => ?_)
 go_simp
 refine ⟨trivial, ?_⟩
 refine (callsIn_wide.2 (CI.out _ hS.1)).mono ?_
 rintro e wX ⟨rfl, gX⟩
 have hS : Gr w wX ∧ St3 wX b9 := ⟨hS.1.trans gX, hS.2.gr gX⟩
 refine hK.out _ _ hS ?_
 clear hK K gX
 refine H4 10 11 12 13 tv hS ?_
 refine Hr 14 rfl (fun K hK => ?_)
 go_simp
 refine ⟨trivial, ?_⟩
 refine (callsIn_wide.2 (CBt.out _)).mono ?_
 rintro e wX ⟨rfl, rfl⟩
 refine hK.out _ _ hS ?_
 clear hK K
 refine H3 15 16 17 tv hS ?_
 refine Hr 18 rfl (fun K hK => ?_)
 go_simp
 refine ⟨trivial, ?_⟩
 refine (callsIn_wide.2 (DA.out _)).mono ?_
 rintro e wX ⟨rfl, rfl⟩
 refine hK.out _ _ hS ?_
 clear hK K
 refine H2 19 20 tv hS ?_
 obtain ⟨⟨m0, m1, m2, v0, v1, v2⟩, l0, l1, l2⟩ := hS.2
 obtain ⟨W, hW, gW, y0, y1, y2⟩ := put3 hS.1 (Nat.le_of_eq hb9) v0 v1 v2 (.int .i64 4) (.int .i64 qa) (.int .i64 v)
 have hSW : Gr w W ∧ St3 W b9 := ⟨gW, hW ▸ hS.2.set _ _ _⟩
 refine Hr 21 rfl (fun K hK => ?_)
 go_simp
 try rw [hW]
 refine hK.out _ _ hSW ?_
 clear hK K hS
 have hS := hSW
 refine Hr 22 rfl (fun K hK => ?_)
 go_simp
 refine hK.out _ _ hS ?_
 clear hK K
 refine Hd ?_
 go_wp2_with fail
 refine bodyPost_ret (v := .tuple #[.agg #[.int .i64 4, .int .i64 qa, .int .i64 v], .bool false]) (by simp [results, Tryz.results87, go_sem, y0, y1, y2]) rfl ?_
 exact ⟨4, qa, v, _, rfl, gW, by rw [HW.out]⟩
theorem parse_pickE (x : Key) (w : World) (hT : Pow10 w) (hx : x.length ≤ 1000000) (hl : Lg x) (hp : x.take 4 = pickK) (v : Int) (hv : Lib.atoiAll (cutB (x.drop 4)) = .ok v) (hr : -9223372036854775808 ≤ v ∧ v ≤ 9223372036854775807) (hi : Lib.itoa v = cutB (x.drop 4)) (hb : -999 ≤ v ∧ v ≤ 999) (hq : 0 ≤ dgK (cutA (x.drop 4))) : Calls Tryz.prog 87 #[.string (bA x)] w (RetPa x w) := by
 have hd : ¬ x.take 4 = dropK := by rw [hp]; decide
 have hs : ¬ x.take 4 = sameK := by rw [hp]; decide
 have t1 := ne_text hl.1
 have t2 := ne_text hl.2.1
 have t3 := ne_text hl.2.2.1
 have t4 := ne_text hl.2.2.2.1
 have t5 := ne_text hl.2.2.2.2.1
 have t6 := ne_text hl.2.2.2.2.2
 have C1 := Lh (show ∀ w, Calls Tryz.prog 120 #[.string (bA x), .string ⟨#[100, 114, 111, 112]⟩] w fun e w' => e = .returned (.tuple #[.string (bA x), .bool false]) ∧ Gr w w' from fun w => by
  have := cutp_any x dropK w
  rw [show dropK.length = 4 from rfl, if_neg hd, decide_eq_false hd] at this
  exact this)
 have C2 := Lh (show ∀ w, Calls Tryz.prog 120 #[.string (bA x), .string ⟨#[115, 97, 109, 101]⟩] w fun e w' => e = .returned (.tuple #[.string (bA (x)), .bool false]) ∧ Gr w w' from fun w => by
  have := cutp_any x sameK w
  rw [show sameK.length = 4 from rfl, if_neg hs, decide_eq_false hs] at this
  exact this)
 have C3 := Lh (show ∀ w, Calls Tryz.prog 120 #[.string (bA x), .string ⟨#[112, 105, 99, 107]⟩] w fun e w' => e = .returned (.tuple #[.string (bA (x.drop 4)), .bool true]) ∧ Gr w w' from fun w => by
  have := cutp_any x pickK w
  rw [show pickK.length = 4 from rfl, if_pos hp, decide_eq_true hp] at this
  exact this)
 have G0 := Lh ((Gr.refl w).alloc (.cells #[.int .i64 0, .int .i64 0, .int .i64 0] 103))
 have hxd : (x.drop 4).length ≤ 1000000 := by rw [List.length_drop]; omega
 have CC := Lh (fun w => Cut_any (x.drop 4) hxd w)
 have hcl := cut_le (x.drop 4)
 have DA := Lh (fun w => digit_any (cutA (x.drop 4)) w (by omega))
 have HWd := Lh (show wdOf x = wdPick (x.drop 4) by rw [hl.wd, if_neg hd, if_neg hs, if_pos hp])
 have CA := Lh (fun W (_ : Gr w W) => atoi_yes (cutB (x.drop 4)) v hv (by omega) W)
 have CI := Lh (fun W (k : Gr w W) => itoa_any v hr.1 hr.2 W (hT.gr k))
 have hcmp : ((bA (Lib.itoa v)).toList == (bA (cutB (x.drop 4))).toList) = true := by rw [hi]; simp
 have CBt := Lh (show ∀ w, Calls Tryz.prog 56 #[.int .i64 (-999), .int .i64 v, .int .i64 999] w fun e w' => e = .returned (.bool true) ∧ w' = w from fun w => by
  have := between_any (-999) v 999 w
  rw [show btw (-999) v 999 = true by unfold btw; simp; omega] at this
  exact this.mono fun e w' h => ⟨h.1, by first | exact h.2 | exact h.2.symm⟩)
 have z5 : decide (0 ≤ dgK (cutA (x.drop 4))) = true := decide_eq_true hq
 have HW := Lh (show ∃ wd, wdOf x = some wd ∧ ((4 : Int), dgK (cutA (x.drop 4)), v) = stp wd by rw [HWd.out]; exact pick_some hv hi hb hq)
 clear HWd hv hT hi hb hq hr
 unfold RetCut at CC
 unfold RetT at CI
 clear hx hl hd hs hp hxd hcl
 generalize dgK (cutA (x.drop 4)) = qa at *
 generalize bA (cutA (x.drop 4)) = ua at *
 generalize bA (cutB (x.drop 4)) = ub at *
 generalize bA (x.drop 4) = u at *
 generalize bA x = s at *
 generalize bA (Lib.itoa v) = uv at *
 go_enter Tryz.func87, Tryz.ntmps87
 go_wp2_with (first
  | (go_at_call 120; (with_reducible refine (C1.out _).mono ?_); rintro e w6 ⟨rfl, g6⟩; have HG6 := Lh (G0.out.trans g6); have GB6 := Lh g6; clear g6 C1)
  | (go_at_call 120; (with_reducible refine (C2.out _).mono ?_); rintro e w7 ⟨rfl, g7⟩; have HG7 := Lh (HG6.out.trans g7); have GB7 := Lh (GB6.out.trans g7); clear g7 C2)
  | (go_at_call 120; (with_reducible refine (C3.out _).mono ?_); rintro e w8 ⟨rfl, g8⟩; have HG8 := Lh (HG7.out.trans g8); have GB8 := Lh (GB7.out.trans g8); clear g8 C3)
  | (go_at_call 122; (with_reducible refine (CC.out _).mono ?_); rintro e w9 ⟨f9, rfl, g9⟩; have HG9 := Lh (HG8.out.trans g9); have GB9 := Lh (GB8.out.trans g9); clear g9 CC)
  | (go_at_call 123; (with_reducible refine (CA.out _ HG9.out).mono ?_); rintro e w10 ⟨rfl, g10⟩; have HG10 := Lh (HG9.out.trans g10); have GB10 := Lh (GB9.out.trans g10); clear g10 CA))
 generalize hb9 : w.heap.size = b9 at *
 refine Hg (fun w' => Gr w w' ∧ St3 w' b9) 23 ?_
 have hS : Gr w w10.drew ∧ St3 w10.drew b9 := ⟨HG10.out.drew, hb9 ▸ (St3.new GB10.out).gr ((Gr.refl _).drew)⟩
 obtain ⟨wX, hwX⟩ : ∃ wX, w10.drew = wX := ⟨_, rfl⟩
 rw [hwX] at hS ⊢
 clear hwX
 refine H4 0 2 4 5 tv hS ?_
 refine Hr 1 rfl (fun K hK => ?_)
 go_simp
 refine ⟨trivial, ?_⟩
 refine (callsIn_wide.2 (DA.out _)).mono ?_
 rintro e wX ⟨rfl, rfl⟩
 refine hK.out _ _ hS ?_
 clear hK K
 refine H4 3 6 7 9 tv hS ?_
 refine Hr 8 rfl (fun K hK => ?_)
 go_simp
 refine ⟨trivial, ?_⟩
 refine (callsIn_wide.2 (CI.out _ hS.1)).mono ?_
 rintro e wX ⟨rfl, gX⟩
 have hS : Gr w wX ∧ St3 wX b9 := ⟨hS.1.trans gX, hS.2.gr gX⟩
 refine hK.out _ _ hS ?_
 clear hK K gX
 refine H4 10 11 12 13 tv hS ?_
 refine Hr 14 rfl (fun K hK => ?_)
 go_simp
 refine ⟨trivial, ?_⟩
 refine (callsIn_wide.2 (CBt.out _)).mono ?_
 rintro e wX ⟨rfl, rfl⟩
 refine hK.out _ _ hS ?_
 clear hK K
 refine H3 15 16 17 tv hS ?_
 refine Hr 18 rfl (fun K hK => ?_)
 go_simp
 refine ⟨trivial, ?_⟩
 refine (callsIn_wide.2 (DA.out _)).mono ?_
 rintro e wX ⟨rfl, rfl⟩
 refine hK.out _ _ hS ?_
 clear hK K
 refine H2 19 20 tv hS ?_
 obtain ⟨⟨m0, m1, m2, v0, v1, v2⟩, l0, l1, l2⟩ := hS.2
 obtain ⟨W, hW, gW, y0, y1, y2⟩ := put3 hS.1 (Nat.le_of_eq hb9) v0 v1 v2 (.int .i64 4) (.int .i64 qa) (.int .i64 v)
 have hSW : Gr w W ∧ St3 W b9 := ⟨gW, hW ▸ hS.2.set _ _ _⟩
 refine Hr 21 rfl (fun K hK => ?_)
 go_simp
 try rw [hW]
 refine hK.out _ _ hSW ?_
 clear hK K hS
 have hS := hSW
 refine Hr 22 rfl (fun K hK => ?_)
 go_simp
 refine hK.out _ _ hS ?_
 clear hK K
 refine Hd ?_
 go_wp2_with fail
 refine bodyPost_ret (v := .tuple #[.agg #[.int .i64 4, .int .i64 qa, .int .i64 v], .bool true]) (by simp [results, Tryz.results87, go_sem, y0, y1, y2]) rfl ?_
 exact ⟨4, qa, v, _, rfl, gW, by obtain ⟨wd, h1, h2⟩ := HW.out; rw [h1]; exact ⟨rfl, h2⟩⟩
theorem parse_any (x : Key) (w : World) (hT : Pow10 w) (hE : Errs w) (hx : x.length ≤ 1000000) : Calls Tryz.prog 87 #[.string (bA x)] w (RetPa x w) := by
 by_cases h1 : x = [65]
 ·subst h1; exact parse_A w
 by_cases h2 : x = [66]
 ·subst h2; exact parse_B w
 by_cases h3 : x = [67]
 ·subst h3; exact parse_C w
 by_cases h4 : x = [68]
 ·subst h4; exact parse_D w
 by_cases h5 : x = [111, 114]
 ·subst h5; exact parse_or w
 by_cases h6 : x = [98, 121]
 ·subst h6; exact parse_by w
 have hl : Lg x := ⟨h1, h2, h3, h4, h5, h6⟩
 by_cases hd : x.take 4 = dropK
 ·exact parse_drop x w hx hl hd
 by_cases hs : x.take 4 = sameK
 ·by_cases h2 : (x.drop 4).length = 2
  ·obtain ⟨d, e, hde⟩ : ∃ d e, x.drop 4 = [d, e] := by
    match hr : x.drop 4, h2 with
    | [d, e], _ => exact ⟨d, e, rfl⟩
   exact parse_same x w d e hl hs hde
  exact parse_sameX x w hl hs h2
 by_cases hp : x.take 4 = pickK
 ·rcases ha : Lib.atoiAll (cutB (x.drop 4)) with v | _ | _
  ·have hr : -9223372036854775808 ≤ v ∧ v ≤ 9223372036854775807 := Lib.atoiAll_bounds ha
   by_cases hi : Lib.itoa v = cutB (x.drop 4)
   ·by_cases hb : -999 ≤ v ∧ v ≤ 999
    ·by_cases hq : 0 ≤ dgK (cutA (x.drop 4))
     ·exact parse_pickE x w hT hx hl hp v ha hr hi hb hq
     exact parse_pickD x w hT hx hl hp v ha hr hi hb hq
    exact parse_pickC x w hT hx hl hp v ha hr hi hb
   exact parse_pickB x w hT hx hl hp v ha hr hi
  ·exact parse_pickA x w hE hx hl hp (fun v e => by rw [ha] at e; cases e)
  exact parse_pickA x w hE hx hl hp (fun v e => by rw [ha] at e; cases e)
 exact parse_none x w hl hd hs hp
end Go.Proofs.YtehdemcfeoiecaaGreatDoor
