import Derived.Sort.LotD5
import Derived.Test.YtehdemcfeoiecaaGreatDoorK03
set_option maxHeartbeats 64000000
set_option maxRecDepth 100000
namespace Go.Proofs.YtehdemcfeoiecaaGreatDoor
open Go.RowKit Go.Firn Go.Sort
theorem rev_go {i j : Nat} {d : Array Int} (h : i < j) : reverseLoop i j d = reverseLoop (i + 1) (j - 1) (swp d i j) := by
 conv => lhs; unfold reverseLoop
 rw [if_pos h]
theorem rev_end {i j : Nat} {d : Array Int} (h : ¬ i < j) : reverseLoop i j d = d := by
 unfold reverseLoop; rw [if_neg h]
theorem rev_any (b cap n a0 b0 : Nat) (d : Array Int) (w : World) (hd : d.size = n) (hn : n ≤ 1000000) (hab : a0 < b0) (hb : b0 ≤ n) (hw : RowB w b d) :
  Calls Tryz.prog 209 #[.slice (some ⟨b, 0, none⟩) n cap, .int .i64 a0, .int .i64 b0] w (RetW b (reverseRange d a0 b0) w) := by
 have HW := Lh hw
 have HD := Lh hd
 obtain ⟨b1, hb1⟩ : ∃ b1, b1 + 1 = b0 := ⟨b0 - 1, by omega⟩
 have e0 : IntKind.i64.wrap ((b0 : Int) - 1) = (b1 : Int) := wsub1 hb1 (by omega)
 have HR := Lh (show reverseRange d a0 b0 = reverseLoop a0 b1 d by unfold reverseRange; rw [show b0 - 1 = b1 by omega])
 have HF := Lh (show a0 ≤ b1 ∧ b1 < n by omega)
 clear hw hd hb1 hab hb
 go_enter Tryz.func209, Tryz.ntmps209
 go_wp2_with fail
 clear e0
 go_loopw [6, 7] (fun i j wr => ∃ (k l : Nat) (d1 : Array Int), i = .int .i64 k ∧ j = .int .i64 l ∧ Hid (l < n ∧ k ≤ l + 1) ∧ Hid (Wr b w wr) ∧ Hid (RowB wr b d1) ∧ Hid (d1.size = n) ∧ Hid (reverseLoop k l d1 = reverseRange d a0 b0)) (fun i j _ => (intOf j - intOf i).toNat)
 case atStart => exact ⟨a0, b1, d, rfl, rfl, Lh (by have := HF.out; omega), Lh (Wr.refl _ _), HW, HD, Lh HR.out.symm⟩
 case round =>
  obtain ⟨k, l, d1, rfl, rfl, hk, HW2, HR1, HD1, HE1⟩ := hrel
  by_cases hkl : k < l
  ·have i0 : (k : Int) < (l : Int) := by omega
   obtain ⟨l1, hl1⟩ : ∃ l1, l1 + 1 = l := ⟨l - 1, by omega⟩
   have e1 : IntKind.i64.wrap ((l : Int) - 1) = (l1 : Int) := wsub1 hl1 (by have := hk.out; omega)
   have i1 : (k : Int) < (n : Int) := by have := hk.out; omega
   have i2 : (l : Int) < (n : Int) := by have := hk.out; omega
   have HM := Lh (show l1 < n ∧ k + 1 ≤ l1 + 1 ∧ l1 < l by have := hk.out; omega)
   have HN := Lh (show k ≠ l by omega)
   have HE4 := Lh (show reverseLoop (k + 1) l1 (swp d1 k l) = reverseRange d a0 b0 by rw [← HE1.out, rev_go hkl, show l - 1 = l1 by omega])
   obtain ⟨cj, fj⟩ := HR1.out k (by rw [HD1.out]; have := hk.out; omega)
   obtain ⟨cp, fp⟩ := HR1.out l (by rw [HD1.out]; have := hk.out; omega)
   have HS := Lh (HR1.out.swap (i := k) (j := l) (by rw [HD1.out]; have := hk.out; omega) (by rw [HD1.out]; have := hk.out; omega))
   have HD3 := Lh (show (swp d1 k l).size = n by rw [size_swp]; exact HD1.out)
   generalize swp d1 k l = d3 at *
   generalize d1[k]! = x at *
   generalize d1[l]! = y at *
   clear hl1
   have cp2 := cell_by (k := k) cp HN.out (.int .u8 y)
   have cj2 := cell_by (k := l) cj HN.out.symm (.int .u8 x)
   go_wp2_with fail
   go_region
   all_goals go_wp2
   go_roundw
   case rel => exact ⟨k + 1, l1, d3, by go_num, rfl, Lh ⟨HM.out.1, HM.out.2.1⟩, Lh ((HW2.out.set k _).set l _).drew, HS, HD3, HE4⟩
   case measure => have := HM.out; simp [intOf]; omega
  have i0 : ¬ (k : Int) < (l : Int) := by omega
  go_wp2_with fail
  go_end0
  exact ⟨rfl, HW2.out, by rw [← HE1.out, rev_end hkl]; exact HR1.out⟩
def BxI (w : World) (s : Nat) (x : Int) : Prop := w.cell? ⟨s, 0, none⟩ = some (.int .i64 x) ∧ w.frozen? ⟨s, 0, none⟩ = false
theorem BxI.set {w : World} {s : Nat} {x : Int} (h : BxI w s x) (y : Int) : BxI (w.setCell ⟨s, 0, none⟩ (.int .i64 y)) s y := ⟨cell_near h.1 _, by simpa using h.2⟩
theorem _root_.Go.Firn.RowB.wr {w w' : World} {b s : Nat} {d : Array Int} (h : RowB w b d) (g : Wr s w w') (hne : b ≠ s) : RowB w' b d :=
 fun p hp => ⟨g.cell (h p hp).1 hne, by
  rw [World.frozen?_of_block (g.block b (World.block_lt_of_cell? w _ (h p hp).1) (fun e => hne (Option.some.inj e)))]
  exact (h p hp).2⟩
def Ret2 (s : Nat) (x y : Nat) (k : Nat) (w : World) (e : Ending) (w' : World) : Prop := e = .returned (.tuple #[.int .i64 x, .int .i64 y]) ∧ Wr s w w' ∧ BxI w' s k
def Ret1 (s : Nat) (x : Nat) (k : Nat) (w : World) (e : Ending) (w' : World) : Prop := e = .returned (.int .i64 x) ∧ Wr s w w' ∧ BxI w' s k
theorem order2_any (b cap n s x y k : Nat) (d : Array Int) (w : World) (hd : d.size = n) (hx : x < n) (hy : y < n) (hk : k ≤ 100) (hw : RowB w b d) (hs : BxI w s k) :
  Calls Tryz.prog 257 #[.slice (some ⟨b, 0, none⟩) n cap, .int .i64 x, .int .i64 y, .pointer (some ⟨s, 0, none⟩)] w (Ret2 s (order2 ltInt d x y k).1 (order2 ltInt d x y k).2.1 (order2 ltInt d x y k).2.2 w) := by
 have HS := Lh hs
 obtain ⟨cx, -⟩ := hw x (by omega)
 obtain ⟨cy, -⟩ := hw y (by omega)
 obtain ⟨cs, fs⟩ := hs
 have i1 : (x : Int) < (n : Int) := by omega
 have i2 : (y : Int) < (n : Int) := by omega
 have e1 : IntKind.i64.wrap ((k : Int) + 1) = ((k + 1 : Nat) : Int) := wadd1 rfl (by omega)
 by_cases hl : d[y]! < d[x]!
 ·have HO : order2 ltInt d x y k = (y, x, k + 1) := by unfold order2 ltInt; rw [if_pos (by simpa using hl)]
  rw [HO]
  have C := Lh (fun w1 => show Calls Tryz.prog 167 #[.int .u8 d[y]!, .int .u8 d[x]!] w1 fun e w' => e = .returned (.bool true) ∧ w' = w1 by have := Less8_any d[y]! d[x]! w1; rwa [decide_eq_true hl] at this)
  generalize d[x]! = u at *
  generalize d[y]! = v at *
  clear hw hd hl HO
  go_enter Tryz.func257, Tryz.ntmps257
  go_wp2_with fail
  go_quiet ((go_at_call 167; with_reducible exact Calls.quiet_of_same (C.out _)))
  go_wp2_with fail
  replace cs : (w.drewN nq).cell? ⟨s, 0, none⟩ = some (.int .i64 k) := cs
  replace fs : (w.drewN nq).frozen? ⟨s, 0, none⟩ = false := fs
  have GG := Lh (show Wr s w (w.drewN nq) from (Wr.refl _ _).drewN _)
  replace HS := Lh (show BxI (w.drewN nq) s k from HS.out)
  generalize w.drewN nq = wq at *
  go_wp2_with fail
  refine bodyPost_ret (v := .tuple #[.int .i64 y, .int .i64 x]) (by simp [results, Tryz.results257, go_sem]) rfl ?_
  exact ⟨rfl, GG.out.set 0 _, HS.out.set _⟩
 have HO : order2 ltInt d x y k = (x, y, k) := by unfold order2 ltInt; rw [if_neg (by simpa using hl)]
 rw [HO]
 have C := Lh (fun w1 => show Calls Tryz.prog 167 #[.int .u8 d[y]!, .int .u8 d[x]!] w1 fun e w' => e = .returned (.bool false) ∧ w' = w1 by have := Less8_any d[y]! d[x]! w1; rwa [decide_eq_false hl] at this)
 generalize d[x]! = u at *
 generalize d[y]! = v at *
 clear hw hd hl HO
 go_enter Tryz.func257, Tryz.ntmps257
 go_wp2_with fail
 go_quiet ((go_at_call 167; with_reducible exact Calls.quiet_of_same (C.out _)))
 go_wp2_with fail
 refine bodyPost_ret (v := .tuple #[.int .i64 x, .int .i64 y]) (by simp [results, Tryz.results257, go_sem]) rfl ?_
 exact ⟨rfl, (Wr.refl _ _).drewN _, HS.out⟩
theorem order2_of (d : Array Int) (x y k : Nat) : ((order2 ltInt d x y k).1 = x ∧ (order2 ltInt d x y k).2.1 = y ∨ (order2 ltInt d x y k).1 = y ∧ (order2 ltInt d x y k).2.1 = x) ∧ k ≤ (order2 ltInt d x y k).2.2 ∧ (order2 ltInt d x y k).2.2 ≤ k + 1 := by
 unfold order2
 split
 ·exact ⟨.inr ⟨rfl, rfl⟩, by show k ≤ k + 1; omega, Nat.le_refl _⟩
 exact ⟨.inl ⟨rfl, rfl⟩, Nat.le_refl _, by show k ≤ k + 1; omega⟩
theorem median_of (d : Array Int) {n x y z k : Nat} (hx : x < n) (hy : y < n) (hz : z < n) : (median ltInt d x y z k).1 < n ∧ k ≤ (median ltInt d x y z k).2 ∧ (median ltInt d x y z k).2 ≤ k + 3 := by
 unfold median
 simp only []
 obtain ⟨o1, l1, m1⟩ := order2_of d x y k
 obtain ⟨o2, l2, m2⟩ := order2_of d (order2 ltInt d x y k).2.1 z (order2 ltInt d x y k).2.2
 obtain ⟨o3, l3, m3⟩ := order2_of d (order2 ltInt d x y k).1 (order2 ltInt d (order2 ltInt d x y k).2.1 z (order2 ltInt d x y k).2.2).1 (order2 ltInt d (order2 ltInt d x y k).2.1 z (order2 ltInt d x y k).2.2).2.2
 refine ⟨?_, by omega, by omega⟩
 rcases o1 with ⟨a1, b1⟩ | ⟨a1, b1⟩ <;> rcases o2 with ⟨a2, b2⟩ | ⟨a2, b2⟩ <;> rcases o3 with ⟨a3, b3⟩ | ⟨a3, b3⟩ <;> omega
theorem median_any (b cap n s x y z k : Nat) (d : Array Int) (w : World) (hbs : b ≠ s) (hd : d.size = n) (hx : x < n) (hy : y < n) (hz : z < n) (hk : k ≤ 90) (hw : RowB w b d) (hs : BxI w s k) :
  Calls Tryz.prog 242 #[.slice (some ⟨b, 0, none⟩) n cap, .int .i64 x, .int .i64 y, .int .i64 z, .pointer (some ⟨s, 0, none⟩)] w (Ret1 s (median ltInt d x y z k).1 (median ltInt d x y z k).2 w) := by
 obtain ⟨o1, l1, m1⟩ := order2_of d x y k
 have C1 := Lh (order2_any b cap n s x y k d w hd hx hy (by omega) hw hs)
 obtain ⟨x1, y1, k1, h1⟩ : ∃ x1 y1 k1, order2 ltInt d x y k = (x1, y1, k1) := ⟨_, _, _, rfl⟩
 rw [h1] at C1 o1 l1 m1
 simp only [] at o1 l1 m1
 have hx1 : x1 < n := by omega
 have hy1 : y1 < n := by omega
 obtain ⟨o2, l2, m2⟩ := order2_of d y1 z k1
 have C2 := Lh (fun w1 (g : Wr s w w1) (h : BxI w1 s k1) => order2_any b cap n s y1 z k1 d w1 hd hy1 hz (by omega) (hw.wr g hbs) h)
 obtain ⟨y2, z2, k2, h2⟩ : ∃ y2 z2 k2, order2 ltInt d y1 z k1 = (y2, z2, k2) := ⟨_, _, _, rfl⟩
 rw [h2] at C2 o2 l2 m2
 simp only [] at o2 l2 m2
 have hy2 : y2 < n := by omega
 obtain ⟨o3, l3, m3⟩ := order2_of d x1 y2 k2
 have C3 := Lh (fun w1 (g : Wr s w w1) (h : BxI w1 s k2) => order2_any b cap n s x1 y2 k2 d w1 hd hx1 hy2 (by omega) (hw.wr g hbs) h)
 obtain ⟨x3, y3, k3, h3⟩ : ∃ x3 y3 k3, order2 ltInt d x1 y2 k2 = (x3, y3, k3) := ⟨_, _, _, rfl⟩
 rw [h3] at C3
 have HO : median ltInt d x y z k = (y3, k3) := by unfold median; simp only [h1, h2, h3]
 rw [HO]
 clear HO h1 h2 h3 o1 o2 o3 l1 l2 l3 m1 m2 m3 hw hs hd
 go_enter Tryz.func242, Tryz.ntmps242
 go_wp2_with fail
 refine C1.out.mono ?_
 rintro e w1 ⟨rfl, g1, s1⟩
 have G1 := Lh g1
 have S1 := Lh s1
 clear g1 s1
 go_wp2_with fail
 refine (C2.out _ G1.out S1.out).mono ?_
 rintro e w2 ⟨rfl, g2, s2⟩
 have G2 := Lh (G1.out.trans g2)
 have S2 := Lh s2
 clear g2 s2
 go_wp2_with fail
 refine (C3.out _ G2.out S2.out).mono ?_
 rintro e w3 ⟨rfl, g3, s3⟩
 have G3 := Lh (G2.out.trans g3)
 have S3 := Lh s3
 clear g3 s3
 go_wp2_with fail
 go_ret
 exact ⟨rfl, G3.out, S3.out⟩
theorem medAdj_any (b cap n s x k : Nat) (d : Array Int) (w : World) (hbs : b ≠ s) (hd : d.size = n) (hn : n ≤ 1000000) (hx : 0 < x) (hx2 : x + 1 < n) (hk : k ≤ 90) (hw : RowB w b d) (hs : BxI w s k) :
  Calls Tryz.prog 241 #[.slice (some ⟨b, 0, none⟩) n cap, .int .i64 x, .pointer (some ⟨s, 0, none⟩)] w (Ret1 s (medianAdjacent ltInt d x k).1 (medianAdjacent ltInt d x k).2 w) := by
 obtain ⟨x0, h0⟩ : ∃ x0, x0 + 1 = x := ⟨x - 1, by omega⟩
 have e1 : IntKind.i64.wrap ((x : Int) - 1) = (x0 : Int) := wsub1 h0 (by omega)
 have e2 : IntKind.i64.wrap ((x : Int) + 1) = ((x + 1 : Nat) : Int) := wadd1 rfl (by omega)
 have C1 := Lh (median_any b cap n s x0 x (x + 1) k d w hbs hd (by omega) (by omega) hx2 hk hw hs)
 have HO : medianAdjacent ltInt d x k = median ltInt d x0 x (x + 1) k := by unfold medianAdjacent; rw [show x - 1 = x0 by omega]
 rw [HO]
 generalize median ltInt d x0 x (x + 1) k = r at *
 obtain ⟨x1, hx1⟩ : ∃ x1, x + 1 = x1 := ⟨_, rfl⟩
 rw [hx1] at e2 C1
 clear HO h0 hw hs hd hx hx2 hx1
 go_enter Tryz.func241, Tryz.ntmps241
 go_wp2_with fail
 refine C1.out.mono ?_
 rintro e w1 ⟨rfl, g1, s1⟩
 have G1 := Lh g1
 have S1 := Lh s1
 clear g1 s1
 go_wp2_with fail
 go_ret
 exact ⟨rfl, G1.out, S1.out⟩
def hintC : Hint → Int
 | .unknown => 0
 | .increasing => 1
 | .decreasing => 2
def RetP (p : Nat) (h : Hint) (w : World) (e : Ending) (w' : World) : Prop := e = .returned (.tuple #[.int .i64 p, .int .i64 (hintC h)]) ∧ Gr w w'
def pivR (d : Array Int) (l i j k : Nat) : Nat × Nat :=
 if l ≥ 50 then median ltInt d (medianAdjacent ltInt d i 0).1 (medianAdjacent ltInt d j (medianAdjacent ltInt d i 0).2).1 (medianAdjacent ltInt d k (medianAdjacent ltInt d j (medianAdjacent ltInt d i 0).2).2).1 (medianAdjacent ltInt d k (medianAdjacent ltInt d j (medianAdjacent ltInt d i 0).2).2).2
 else median ltInt d i j k 0
theorem choose_eq {d : Array Int} {a b : Nat} (h : 8 ≤ b - a) : choosePivot ltInt d a b = ((pivR d (b - a) (a + (b - a) / 4 * 1) (a + (b - a) / 4 * 2) (a + (b - a) / 4 * 3)).1, if (pivR d (b - a) (a + (b - a) / 4 * 1) (a + (b - a) / 4 * 2) (a + (b - a) / 4 * 3)).2 = 0 then .increasing else if (pivR d (b - a) (a + (b - a) / 4 * 1) (a + (b - a) / 4 * 2) (a + (b - a) / 4 * 3)).2 = 12 then .decreasing else .unknown) := by
 unfold choosePivot pivR
 simp only [if_pos h, ge_iff_le]
theorem medAdj_of (d : Array Int) {n x k : Nat} (hx : 0 < x) (hx2 : x + 1 < n) : (medianAdjacent ltInt d x k).1 < n ∧ (medianAdjacent ltInt d x k).2 ≤ k + 3 := by
 have := median_of d (n := n) (x := x - 1) (y := x) (z := x + 1) (k := k) (by omega) (by omega) hx2
 exact ⟨this.1, this.2.2⟩
theorem choose_num {a0 b0 l q i j k q2 q3 : Nat} (hb : b0 ≤ 1000000) (hab : a0 + 12 < b0) (hl : b0 - a0 = l) (hq : l / 4 = q) (hi : a0 + q * 1 = i) (hj : a0 + q * 2 = j) (hk : a0 + q * 3 = k) (hq2 : q * 2 = q2) (hq3 : q * 3 = q3) :
  IntKind.i64.wrap ((b0 : Int) - (a0 : Int)) = (l : Int) ∧ IntKind.i64.wrap ((a0 : Int) + (q : Int)) = (i : Int) ∧ IntKind.i64.wrap ((a0 : Int) + (q2 : Int)) = (j : Int) ∧ IntKind.i64.wrap ((a0 : Int) + (q3 : Int)) = (k : Int) ∧
  IntKind.i64.wrap (q : Int) = (q : Int) ∧ wrap64 (q : Int) = (q : Int) ∧ IntKind.i64.wrap ((q : Int) * 2) = (q2 : Int) ∧ IntKind.i64.wrap ((q : Int) * 3) = (q3 : Int) ∧ (8 : Int) ≤ (l : Int) ∧ 8 ≤ l ∧ wrap64 ((l : Int) / 4) = (q : Int) ∧
  wrap64 ((a0 : Int) + (l : Int) / 4) = (i : Int) ∧ wrap64 ((a0 : Int) + (l : Int) / 4 * 2) = (j : Int) ∧ wrap64 ((a0 : Int) + (l : Int) / 4 * 3) = (k : Int) := by
 refine ⟨wsub (by omega) (by omega), wadd (by omega) (by omega), wadd (by omega) (by omega), wadd (by omega) (by omega), IntWalk.i64_in _ (by omega), IntWalk.wrap64_in _ (by omega), ?_, ?_, by omega, by omega, ?_, ?_, ?_, ?_⟩
 ·rw [IntWalk.i64_in _ (by omega)]; omega
 ·rw [IntWalk.i64_in _ (by omega)]; omega
 ·rw [IntWalk.wrap64_in _ (by omega)]; omega
 ·rw [IntWalk.wrap64_in _ (by omega)]; omega
 ·rw [IntWalk.wrap64_in _ (by omega)]; omega
 rw [IntWalk.wrap64_in _ (by omega)]; omega
theorem choose_any (b cap n a0 b0 : Nat) (d : Array Int) (w : World) (hd : d.size = n) (hn : n ≤ 1000000) (hab : a0 + 12 < b0) (hb : b0 ≤ n) (hw : RowB w b d) (hbw : b < w.heap.size) :
  Calls Tryz.prog 208 #[.slice (some ⟨b, 0, none⟩) n cap, .int .i64 a0, .int .i64 b0] w (RetP (choosePivot ltInt d a0 b0).1 (choosePivot ltInt d a0 b0).2 w) := by
 rw [choose_eq (by omega)]
 obtain ⟨l, hl⟩ : ∃ l, b0 - a0 = l := ⟨_, rfl⟩
 rw [hl]
 obtain ⟨q, hq⟩ : ∃ q, l / 4 = q := ⟨_, rfl⟩
 rw [hq]
 obtain ⟨i, hi⟩ : ∃ i, a0 + q * 1 = i := ⟨_, rfl⟩
 obtain ⟨j, hj⟩ : ∃ j, a0 + q * 2 = j := ⟨_, rfl⟩
 obtain ⟨k, hk⟩ : ∃ k, a0 + q * 3 = k := ⟨_, rfl⟩
 rw [hi, hj, hk]
 obtain ⟨q2, hq2⟩ : ∃ q2, q * 2 = q2 := ⟨_, rfl⟩
 obtain ⟨q3, hq3⟩ : ∃ q3, q * 3 = q3 := ⟨_, rfl⟩
 have x1 : 0 < i ∧ i + 1 < n := by omega
 have x2 : 0 < j ∧ j + 1 < n := by omega
 have x3 : 0 < k ∧ k + 1 < n := by omega
 obtain ⟨s, hs⟩ : ∃ s, w.heap.size = s := ⟨_, rfl⟩
 have hbs : b ≠ s := by omega
 obtain ⟨W0, hW0⟩ : ∃ W0, w.alloc (.cells #[.int .i64 0] 3) = W0 := ⟨_, rfl⟩
 have G0 := Lh (show Gr w W0 by rw [← hW0]; exact (Gr.refl w).alloc _)
 have S0 := Lh (show BxI W0 s ((0 : Nat) : Int) by
  rw [← hW0]
  have g := (Gr.refl (w.alloc (.cells #[.int .i64 0] 3))).fresh' (j := 0) hs rfl
  exact ⟨g.1, g.2⟩)
 have HR := Lh (fun w1 (g : Wr s W0 w1) => (hw.gr G0.out).wr g hbs)
 have HE := Lh (fun w1 (g : Wr s W0 w1) => show Gr w w1 from g.gr G0.out (by omega))
 have fA := Lh (fun (x c : Nat) (hx : 0 < x) (hx2 : x + 1 < n) (hc : c ≤ 90) w1 (g : Wr s W0 w1) (h : BxI w1 s c) => medAdj_any b cap n s x c d w1 hbs hd hn hx hx2 hc (HR.out w1 g) h)
 have fM := Lh (fun (x y z c : Nat) (hx : x < n) (hy : y < n) (hz : z < n) (hc : c ≤ 90) w1 (g : Wr s W0 w1) (h : BxI w1 s c) => median_any b cap n s x y z c d w1 hbs hd hx hy hz hc (HR.out w1 g) h)
 obtain ⟨e1, r1, r2, r3, -, m1, m2, m3, g8, g8n, e2, p1, p2, p3⟩ := choose_num (a0 := a0) (b0 := b0) (l := l) (q := q) (i := i) (j := j) (k := k) (q2 := q2) (q3 := q3) (by omega) (by omega) hl hq hi hj hk hq2 hq3
 have hws : w.heap.size = s := hs
 rw [IntWalk.i64_left] at r1 r2 r3 m2 m3
 subst hW0
 clear hl hq hi hj hk hq2 hq3 hw hd hb hab hbw
 have HH := Lh (show ∀ c : Nat, (c = 0 ∧ (if c = 0 then Hint.increasing else if c = 12 then Hint.decreasing else Hint.unknown) = .increasing) ∨ (c = 12 ∧ (if c = 0 then Hint.increasing else if c = 12 then Hint.decreasing else Hint.unknown) = .decreasing) ∨ ((c ≠ 0 ∧ c ≠ 12) ∧ (if c = 0 then Hint.increasing else if c = 12 then Hint.decreasing else Hint.unknown) = .unknown) by
  intro c
  by_cases h0 : c = 0
  ·exact .inl ⟨h0, if_pos h0⟩
  by_cases h1 : c = 12
  ·exact .inr (.inl ⟨h1, by rw [if_neg h0, if_pos h1]⟩)
  exact .inr (.inr ⟨⟨h0, h1⟩, by rw [if_neg h0, if_neg h1]⟩))
 unfold pivR
 by_cases h50 : l ≥ 50
 focus
  rw [if_pos h50]
  have g50 : (50 : Int) ≤ (l : Int) := Int.ofNat_le.2 h50
  have C1 := Lh (fA.out i 0 x1.1 x1.2 (by decide) _ (Wr.refl _ _) S0.out)
  have hm1 := fun x c h h2 => medAdj_of d (n := n) (x := x) (k := c) h h2
  obtain ⟨r1, hr1⟩ : ∃ r, medianAdjacent ltInt d i 0 = r := ⟨_, rfl⟩
  have l1 := hm1 i 0 x1.1 x1.2
  rw [hr1] at C1 l1 ⊢
  obtain ⟨i1, c1⟩ := r1
  simp only [] at C1 l1 ⊢
  have C2 := Lh (fun w1 g h => fA.out j c1 x2.1 x2.2 (Nat.le_trans l1.2 (by decide)) w1 g h)
  obtain ⟨r2, hr2⟩ : ∃ r, medianAdjacent ltInt d j c1 = r := ⟨_, rfl⟩
  have l2 := hm1 j c1 x2.1 x2.2
  rw [hr2] at C2 l2 ⊢
  obtain ⟨j1, c2⟩ := r2
  simp only [] at C2 l2 ⊢
  have hc2 : c2 ≤ 6 := Nat.le_trans l2.2 (Nat.add_le_add_right l1.2 3)
  have C3 := Lh (fun w1 g h => fA.out k c2 x3.1 x3.2 (Nat.le_trans hc2 (by decide)) w1 g h)
  obtain ⟨r3, hr3⟩ : ∃ r, medianAdjacent ltInt d k c2 = r := ⟨_, rfl⟩
  have l3 := hm1 k c2 x3.1 x3.2
  rw [hr3] at C3 l3 ⊢
  obtain ⟨k1, c3⟩ := r3
  simp only [] at C3 l3 ⊢
  have hc3 : c3 ≤ 9 := Nat.le_trans l3.2 (Nat.add_le_add_right hc2 3)
  have C := Lh (fun w1 g h => fM.out i1 j1 k1 c3 l1.1 l2.1 l3.1 (Nat.le_trans hc3 (by decide)) w1 g h)
  generalize median ltInt d i1 j1 k1 c3 = r at *
  obtain ⟨p, c⟩ := r
  simp only [] at C ⊢
  have HH' := Lh (HH.out c)
  generalize (if c = 0 then Hint.increasing else if c = 12 then Hint.decreasing else Hint.unknown) = hint at *
  clear x1 x2 x3 fA fM hbs HH hm1 hr1 hr2 hr3 l1 l2 l3 hc2 hc3
  go_enter Tryz.func208, Tryz.ntmps208
  go_wp2_with fail
  with_reducible refine C1.out.mono ?_
  rintro e w1 ⟨rfl, g1, s1⟩
  have G1 := Lh g1
  have S1 := Lh s1
  clear g1 s1
  go_wp2_with fail
  with_reducible refine (C2.out _ G1.out S1.out).mono ?_
  rintro e w2 ⟨rfl, g2, s2⟩
  have G2 := Lh (G1.out.trans g2)
  have S2 := Lh s2
  clear g2 s2
  go_wp2_with fail
  with_reducible refine (C3.out _ G2.out S2.out).mono ?_
  rintro e w3 ⟨rfl, g3, s3⟩
  have G3 := Lh (G2.out.trans g3)
  have S3 := Lh s3
  clear g3 s3
  go_wp2_with fail
  with_reducible refine (C.out _ G3.out S3.out).mono ?_
  rintro e w4 ⟨rfl, g4, s4⟩
  have G4 := Lh (HE.out _ (G3.out.trans g4))
 rotate_left
 focus
  rw [if_neg h50]
  have g50 : ¬ (50 : Int) ≤ (l : Int) := fun h => h50 (Int.ofNat_le.1 h)
  have C := Lh (fM.out i j k 0 (Nat.lt_of_succ_lt x1.2) (Nat.lt_of_succ_lt x2.2) (Nat.lt_of_succ_lt x3.2) (by decide) _ (Wr.refl _ _) S0.out)
  generalize median ltInt d i j k 0 = r at *
  obtain ⟨p, c⟩ := r
  simp only [] at C ⊢
  have HH' := Lh (HH.out c)
  generalize (if c = 0 then Hint.increasing else if c = 12 then Hint.decreasing else Hint.unknown) = hint at *
  clear x1 x2 x3 fA fM hbs HH
  go_enter Tryz.func208, Tryz.ntmps208
  go_wp2_with fail
  with_reducible refine C.out.mono ?_
  rintro e w4 ⟨rfl, g4, s4⟩
  have G4 := Lh (HE.out _ g4)
 all_goals
  obtain ⟨cs, -⟩ := s4
  clear g4
  rcases HH'.out with ⟨rfl, h⟩ | ⟨rfl, h⟩ | ⟨hc, h⟩
  ·have HX := Lh h
   clear HH' h
   go_wp2_with fail
   refine bodyPost_ret (v := .tuple #[.int .i64 p, .int .i64 1]) (by simp [results, Tryz.results208, go_sem]) rfl ?_
   exact ⟨by rw [HX.out]; rfl, G4.out⟩
  ·have HX := Lh h
   clear HH' h
   go_wp2_with fail
   refine bodyPost_ret (v := .tuple #[.int .i64 p, .int .i64 2]) (by simp [results, Tryz.results208, go_sem]) rfl ?_
   exact ⟨by rw [HX.out]; rfl, G4.out⟩
  have HX := Lh h
  obtain ⟨n0, n12⟩ := hc
  have n0' : ((c : Int) == 0) = false := by simpa using n0
  have n12' : ((c : Int) == 12) = false := by simp; exact fun h => n12 (by omega)
  clear HH' h
  go_wp2_with fail
  refine bodyPost_ret (v := .tuple #[.int .i64 p, .int .i64 0]) (by simp [results, Tryz.results208, go_sem]) rfl ?_
  exact ⟨by rw [HX.out]; rfl, G4.out⟩
theorem scanUp_go {p : Int → Bool} {d : Array Int} {j i : Nat} (h : i ≤ j) (hp : p d[i]! = true) : scanUp p d j i = scanUp p d j (i + 1) := by
 conv => lhs; unfold scanUp
 rw [if_pos (by rw [decide_eq_true h, hp]; rfl)]
theorem scanUp_stop {p : Int → Bool} {d : Array Int} {j i : Nat} (h : ¬ (i ≤ j ∧ p d[i]! = true)) : scanUp p d j i = i := by
 unfold scanUp
 rw [if_neg (by rw [Bool.and_eq_true, decide_eq_true_eq]; exact h)]
theorem scanDown_go {p : Int → Bool} {d : Array Int} {j i : Nat} (h : i ≤ j + 1) (hp : p d[j + 1]! = true) : scanDown p d i (j + 1) = scanDown p d i j := by
 conv => lhs; unfold scanDown
 rw [if_pos (by rw [decide_eq_true h, hp]; rfl)]
theorem scanDown_stop {p : Int → Bool} {d : Array Int} {j i : Nat} (h : ¬ (i ≤ j ∧ p d[j]! = true)) (hi : 0 < i ∨ 0 < j) : scanDown p d i j = j := by
 cases j with
 | zero => rfl
 | succ j =>
  unfold scanDown
  rw [if_neg (by rw [Bool.and_eq_true, decide_eq_true_eq]; exact h)]
def RetWN (b x : Nat) (d : Array Int) (w : World) (e : Ending) (w' : World) : Prop := e = .returned (.int .i64 x) ∧ Wr b w w' ∧ RowB w' b d
theorem peq_any (b cap n a0 b0 pv : Nat) (d : Array Int) (w : World) (hd : d.size = n) (hn : n ≤ 1000000) (hab : a0 + 1 < b0) (hb : b0 ≤ n) (hp : pv < n) (hw : RowB w b d) :
  Calls Tryz.prog 211 #[.slice (some ⟨b, 0, none⟩) n cap, .int .i64 a0, .int .i64 b0, .int .i64 pv] w (RetWN b (partitionEqual ltInt d a0 b0 pv).1 (partitionEqual ltInt d a0 b0 pv).2 w) := by
 obtain ⟨b1, hb1⟩ : ∃ b1, b1 + 1 = b0 := ⟨b0 - 1, by omega⟩
 have HF := Lh (show a0 < n ∧ b1 < n ∧ a0 < b1 ∧ n ≤ 1000000 ∧ pv < n by omega)
 have HE1 := Lh (show partEqLoop ltInt a0 (a0 + 1) b1 (swp d a0 pv) = partitionEqual ltInt d a0 b0 pv by unfold partitionEqual; rw [show b0 - 1 = b1 by omega])
 have s1 : IntKind.i64.wrap ((b0 : Int) - 1) = (b1 : Int) := wsub1 hb1 (by omega)
 have s2 : IntKind.i64.wrap ((a0 : Int) + 1) = ((a0 + 1 : Nat) : Int) := wadd1 rfl (by omega)
 have s3 : (a0 : Int) < (n : Int) := by omega
 have s4 : (pv : Int) < (n : Int) := by omega
 have HS := Lh (hw.swap (i := a0) (j := pv) (by omega) (by omega))
 have HD3 := Lh (show (swp d a0 pv).size = n by rw [size_swp]; exact hd)
 obtain ⟨cj, fj⟩ := hw a0 (by omega)
 obtain ⟨cp, fp⟩ := hw pv (by omega)
 obtain ⟨x, hx⟩ : ∃ x, d[a0]! = x := ⟨_, rfl⟩
 obtain ⟨y, hy⟩ : ∃ y, d[pv]! = y := ⟨_, rfl⟩
 rw [hx] at cj HS
 rw [hy] at cp HS
 generalize swp d a0 pv = d0 at *
 have cp2 := cell_same cp a0
 have cj2 := cell_same cj pv
 clear hx hy hb1 hab hb hp hw hd
 go_enter Tryz.func211, Tryz.ntmps211
 go_wp2_with fail
 go_region
 all_goals go_wp2
 clear cj fj cp fp cp2 cj2 s1 s2 s3 s4
 go_loopw [9, 10] (fun i j wr => ∃ (i0 j0 : Nat) (d1 : Array Int), i = .int .i64 i0 ∧ j = .int .i64 j0 ∧ Hid (a0 < i0 ∧ i0 ≤ j0 + 2 ∧ j0 < n) ∧ Hid (Wr b w wr) ∧ Hid (RowB wr b d1) ∧ Hid (d1.size = n) ∧ Hid (partEqLoop ltInt a0 i0 j0 d1 = partitionEqual ltInt d a0 b0 pv)) (fun i j _ => (intOf j + 1 - intOf i).toNat)
 case atStart => exact ⟨a0 + 1, b1, d0, by go_num, rfl, Lh (by have := HF.out; omega), Lh ((Wr.refl b w).set a0 _ |>.set pv _).drew, HS, HD3, HE1⟩
 case round =>
  clear HS HD3 HE1
  obtain ⟨i0, j0, d1, rfl, rfl, HE0, HW1, HR1, HD1, HE1⟩ := hrel
  go_wp2_with fail
  go_loopw [9] (fun v wr' => ∃ k : Nat, v = .int .i64 k ∧ Hid (i0 ≤ k ∧ k ≤ j0 + 2) ∧ Hid (Wr b w wr') ∧ Hid (RowB wr' b d1) ∧ Hid (scanUp (fun x => !ltInt d1[a0]! x) d1 j0 k = scanUp (fun x => !ltInt d1[a0]! x) d1 j0 i0)) (fun v _ => j0 + 1 - (intOf v).toNat)
  case atStart => exact ⟨i0, rfl, Lh (by have := HE0.out; omega), HW1, HR1, Lh rfl⟩
  case round =>
   clear HW1 HR1
   obtain ⟨k, rfl, hk, HW1, HR1, HK⟩ := hrel
   have hk' := hk.out
   have hf := HF.out
   have he := HE0.out
   by_cases hkj : k ≤ j0
   ·have f1 : (k : Int) ≤ (j0 : Int) := by omega
    have f2 : (k : Int) < (n : Int) := by omega
    have f3 : (a0 : Int) < (n : Int) := by omega
    obtain ⟨ck, -⟩ := HR1.out k (by rw [HD1.out]; omega)
    obtain ⟨ca, -⟩ := HR1.out a0 (by rw [HD1.out]; omega)
    by_cases hl : d1[a0]! < d1[k]!
    ·have C := Lh (fun w1 => show Calls Tryz.prog 167 #[.int .u8 d1[a0]!, .int .u8 d1[k]!] w1 fun e w' => e = .returned (.bool true) ∧ w' = w1 by have := Less8_any d1[a0]! d1[k]! w1; rwa [decide_eq_true hl] at this)
     have HX := Lh (show scanUp (fun x => !ltInt d1[a0]! x) d1 j0 i0 = k by rw [← HK.out]; exact scanUp_stop (fun h => Bool.noConfusion ((show ((fun x => !ltInt d1[a0]! x)) d1[k]! = false from (by show (!ltInt d1[a0]! d1[k]!) = false; unfold ltInt; rw [decide_eq_true hl]; rfl)).symm.trans h.2)))
     have HQ := Lh hk'
     have hkj2 := hkj
     generalize d1[a0]! = x at C ck ca
     generalize d1[k]! = y at C ck ca
     clear hl hk' hf he HK hk
     go_wp2_with fail
     go_quiet ((go_at_call 167; with_reducible exact Calls.quiet_of_same (C.out _)))
     go_wp2_with fail
     replace HW1 := Lh (HW1.out.drewN nq)
     replace HR1 := Lh (show RowB (wr.drewN nq) b d1 from HR1.out)
     clear ck ca C
     generalize wr.drewN nq = wr at *
     obtain ⟨i2, hi2⟩ : ∃ i2, i2 = k := ⟨_, rfl⟩
     have HI2 := Lh (show scanUp (fun x => !ltInt d1[a0]! x) d1 j0 i0 = i2 by rw [hi2]; exact HX.out)
     have HQ2 := Lh (show i0 ≤ i2 ∧ i2 ≤ j0 + 2 ∧ a0 < i0 ∧ j0 < n by rw [hi2]; have := HQ.out; have := HE0.out; omega)
     rw [← hi2]
     clear HX HQ
     try clear f0
     try clear f1
     try clear f2
     try clear f3
     try clear hkj
     clear hi2
     try clear k
     go_loopw [10] (fun v wr' => ∃ k : Nat, v = .int .i64 k ∧ Hid (k ≤ j0 ∧ i2 ≤ k + 2 ∧ k < n ∧ i0 ≤ i2 ∧ a0 < i0) ∧ Hid (Wr b w wr') ∧ Hid (RowB wr' b d1) ∧ Hid (scanDown (fun x => ltInt d1[a0]! x) d1 i2 k = scanDown (fun x => ltInt d1[a0]! x) d1 i2 j0)) (fun v _ => (intOf v + 1).toNat)
     case atStart => exact ⟨j0, rfl, Lh (by have := HQ2.out; omega), HW1, HR1, Lh rfl⟩
     case round =>
      clear HW1 HR1
      obtain ⟨k, rfl, hk, HW1, HR1, HK⟩ := hrel
      have hk' := hk.out
      have hf := HF.out
      have he := HQ2.out
      by_cases hkj : i2 ≤ k
      ·have f1 : (i2 : Int) ≤ (k : Int) := by omega
       have f2 : (k : Int) < (n : Int) := by omega
       have f3 : (a0 : Int) < (n : Int) := by omega
       obtain ⟨ck, -⟩ := HR1.out k (by rw [HD1.out]; omega)
       obtain ⟨ca, -⟩ := HR1.out a0 (by rw [HD1.out]; omega)
       by_cases hl : d1[a0]! < d1[k]!
       ·have C := Lh (fun w1 => show Calls Tryz.prog 167 #[.int .u8 d1[a0]!, .int .u8 d1[k]!] w1 fun e w' => e = .returned (.bool true) ∧ w' = w1 by have := Less8_any d1[a0]! d1[k]! w1; rwa [decide_eq_true hl] at this)
        obtain ⟨k0, hk0⟩ : ∃ k0, k0 + 1 = k := ⟨k - 1, by omega⟩
        have HK2 := Lh (show scanDown (fun x => ltInt d1[a0]! x) d1 i2 k0 = scanDown (fun x => ltInt d1[a0]! x) d1 i2 j0 by rw [← HK.out, ← hk0]; exact (scanDown_go (by omega) (by rw [hk0]; exact (by show ltInt d1[a0]! d1[k]! = true; unfold ltInt; rw [decide_eq_true hl]))).symm)
        have e1 : IntKind.i64.wrap ((k : Int) - 1) = (k0 : Int) := wsub1 hk0 (by omega)
        have HM := Lh (show k0 + 1 = k from hk0)
        clear hk0
        generalize d1[a0]! = x at *
        generalize d1[k]! = y at *
        clear hl hk' hf he HK
        go_wp2_with fail
        go_quiet ((go_at_call 167; with_reducible exact Calls.quiet_of_same (C.out _)))
        go_wp2_with fail
        go_roundw
        case rel => exact ⟨k0, rfl, Lh (by have := hk.out; have := HF.out; have := HQ2.out; have := HM.out; omega), Lh (HW1.out.drewN _), HR1, HK2⟩
        case measure => have := hk.out; have := HF.out; have := HQ2.out; have := HM.out; simp [intOf]; omega
       have C := Lh (fun w1 => show Calls Tryz.prog 167 #[.int .u8 d1[a0]!, .int .u8 d1[k]!] w1 fun e w' => e = .returned (.bool false) ∧ w' = w1 by have := Less8_any d1[a0]! d1[k]! w1; rwa [decide_eq_false hl] at this)
       have HX := Lh (show scanDown (fun x => ltInt d1[a0]! x) d1 i2 j0 = k by rw [← HK.out]; exact scanDown_stop (fun h => Bool.noConfusion ((show ((fun x => ltInt d1[a0]! x)) d1[k]! = false from (by show ltInt d1[a0]! d1[k]! = false; unfold ltInt; rw [decide_eq_false hl])).symm.trans h.2)) (by omega))
       have HQ := Lh hk'
       have hkj2 := hkj
       generalize d1[a0]! = x at C ck ca
       generalize d1[k]! = y at C ck ca
       clear hl hk' hf he HK hk
       go_wp2_with fail
       go_quiet ((go_at_call 167; with_reducible exact Calls.quiet_of_same (C.out _)))
       go_wp2_with fail
       replace HW1 := Lh (HW1.out.drewN nq)
       replace HR1 := Lh (show RowB (wr.drewN nq) b d1 from HR1.out)
       clear ck ca C
       generalize wr.drewN nq = wr at *
       have HG := Lh (show partEqLoop ltInt a0 i0 j0 d1 = if i2 > k then (i2, d1) else partEqLoop ltInt a0 (i2 + 1) (k - 1) (swp d1 i2 k) by rw [partEqLoop_eq ltInt a0 i0 j0 d1, HI2.out, HX.out])
       clear HX HI2
       have hik : ¬ k < i2 := Nat.not_lt.2 hkj2
       have g0 : ¬ (k : Int) < (i2 : Int) := by omega
       have HZ := Lh (show i2 < n ∧ k < n ∧ a0 < i2 ∧ i2 ≤ k by have := HQ.out; have := HQ2.out; have := HE0.out; have := HF.out; omega)
       obtain ⟨k0, hk0⟩ : ∃ k0, k0 + 1 = k := ⟨k - 1, by have := HZ.out; omega⟩
       have e1 : IntKind.i64.wrap ((k : Int) - 1) = (k0 : Int) := wsub1 hk0 (by have := HZ.out; omega)
       have e2 : IntKind.i64.wrap ((i2 : Int) + 1) = ((i2 + 1 : Nat) : Int) := wadd1 rfl (by have := HZ.out; omega)
       have f1 : (i2 : Int) < (n : Int) := by have := HZ.out; omega
       have f3 : (k : Int) < (n : Int) := by have := HZ.out; omega
       have HM := Lh hk0
       have HG2 := Lh (show partEqLoop ltInt a0 (i2 + 1) k0 (swp d1 i2 k) = partitionEqual ltInt d a0 b0 pv by rw [← HE1.out, HG.out, if_neg hik, show k - 1 = k0 by omega])
       clear HG HE1 hk0
       obtain ⟨cj, fj⟩ := HR1.out i2 (by rw [HD1.out]; have := HZ.out; omega)
       obtain ⟨cp, fp⟩ := HR1.out k (by rw [HD1.out]; have := HZ.out; omega)
       have HS := Lh (HR1.out.swap (i := i2) (j := k) (by rw [HD1.out]; have := HZ.out; omega) (by rw [HD1.out]; have := HZ.out; omega))
       have HD3 := Lh (show (swp d1 i2 k).size = n by rw [size_swp]; exact HD1.out)
       generalize swp d1 i2 k = d3 at *
       generalize d1[i2]! = x at *
       generalize d1[k]! = y at *
       have cp2 := cell_same cp i2
       have cj2 := cell_same cj k
       go_wp2_with fail
       go_region
       all_goals go_wp2
       go_roundw
       case rel => exact ⟨i2 + 1, k0, d3, by go_num, rfl, Lh (by clear e1 e2; have := HZ.out; have := HM.out; omega), Lh ((HW1.out.set i2 _).set k _).drew, HS, HD3, HG2⟩
       case measure => clear e1 e2; have := HZ.out; have := HM.out; have := HE0.out; have := HQ2.out; have := HQ.out; simp [intOf]; omega
      have f0 : ¬ i2 ≤ k := hkj
      have HX := Lh (show scanDown (fun x => ltInt d1[a0]! x) d1 i2 j0 = k by rw [← HK.out]; exact scanDown_stop (fun h => hkj h.1) (by omega))
      have HQ := Lh hk'
      clear hk' hf he HK hk
      go_wp2_with fail
      go_quiet (fail)
      go_wp2_with fail
      replace HW1 := Lh (HW1.out.drewN nq)
      replace HR1 := Lh (show RowB (wr.drewN nq) b d1 from HR1.out)
      generalize wr.drewN nq = wr at *
      have HG := Lh (show partEqLoop ltInt a0 i0 j0 d1 = if i2 > k then (i2, d1) else partEqLoop ltInt a0 (i2 + 1) (k - 1) (swp d1 i2 k) by rw [partEqLoop_eq ltInt a0 i0 j0 d1, HI2.out, HX.out])
      clear HX HI2
      have hik : k < i2 := Nat.lt_of_not_le f0
      have HG2 := Lh (show partitionEqual ltInt d a0 b0 pv = (i2, d1) by rw [← HE1.out, HG.out, if_pos hik])
      have g0 : (k : Int) < (i2 : Int) := by omega
      clear HG HE1
      go_wp2_with fail
      go_ret
      rw [HG2.out]
      exact ⟨rfl, HW1.out, HR1.out⟩
    have C := Lh (fun w1 => show Calls Tryz.prog 167 #[.int .u8 d1[a0]!, .int .u8 d1[k]!] w1 fun e w' => e = .returned (.bool false) ∧ w' = w1 by have := Less8_any d1[a0]! d1[k]! w1; rwa [decide_eq_false hl] at this)
    have HK2 := Lh (show scanUp (fun x => !ltInt d1[a0]! x) d1 j0 (k + 1) = scanUp (fun x => !ltInt d1[a0]! x) d1 j0 i0 by rw [← HK.out]; exact (scanUp_go hkj (by show (!ltInt d1[a0]! d1[k]!) = true; unfold ltInt; rw [decide_eq_false hl]; rfl)).symm)
    have e1 : IntKind.i64.wrap ((k : Int) + 1) = ((k + 1 : Nat) : Int) := wadd1 rfl (by omega)
    generalize d1[a0]! = x at *
    generalize d1[k]! = y at *
    clear hl hk' hf he HK
    go_wp2_with fail
    go_quiet ((go_at_call 167; with_reducible exact Calls.quiet_of_same (C.out _)))
    go_wp2_with fail
    go_roundw
    case rel => exact ⟨k + 1, by go_num, Lh (by have := hk.out; have := HF.out; have := HE0.out; omega), Lh (HW1.out.drewN _), HR1, HK2⟩
    case measure => have := hk.out; have := HF.out; have := HE0.out; simp [intOf]; omega
   have f0 : ¬ k ≤ j0 := hkj
   have HX := Lh (show scanUp (fun x => !ltInt d1[a0]! x) d1 j0 i0 = k by rw [← HK.out]; exact scanUp_stop (fun h => hkj h.1))
   have HQ := Lh hk'
   clear hk' hf he HK hk
   go_wp2_with fail
   go_quiet (fail)
   go_wp2_with fail
   replace HW1 := Lh (HW1.out.drewN nq)
   replace HR1 := Lh (show RowB (wr.drewN nq) b d1 from HR1.out)
   generalize wr.drewN nq = wr at *
   obtain ⟨i2, hi2⟩ : ∃ i2, i2 = k := ⟨_, rfl⟩
   have HI2 := Lh (show scanUp (fun x => !ltInt d1[a0]! x) d1 j0 i0 = i2 by rw [hi2]; exact HX.out)
   have HQ2 := Lh (show i0 ≤ i2 ∧ i2 ≤ j0 + 2 ∧ a0 < i0 ∧ j0 < n by rw [hi2]; have := HQ.out; have := HE0.out; omega)
   rw [← hi2]
   clear HX HQ
   try clear f0
   try clear f1
   try clear f2
   try clear f3
   try clear hkj
   clear hi2
   try clear k
   go_loopw [10] (fun v wr' => ∃ k : Nat, v = .int .i64 k ∧ Hid (k ≤ j0 ∧ i2 ≤ k + 2 ∧ k < n ∧ i0 ≤ i2 ∧ a0 < i0) ∧ Hid (Wr b w wr') ∧ Hid (RowB wr' b d1) ∧ Hid (scanDown (fun x => ltInt d1[a0]! x) d1 i2 k = scanDown (fun x => ltInt d1[a0]! x) d1 i2 j0)) (fun v _ => (intOf v + 1).toNat)
   case atStart => exact ⟨j0, rfl, Lh (by have := HQ2.out; omega), HW1, HR1, Lh rfl⟩
   case round =>
    clear HW1 HR1
    obtain ⟨k, rfl, hk, HW1, HR1, HK⟩ := hrel
    have hk' := hk.out
    have hf := HF.out
    have he := HQ2.out
    by_cases hkj : i2 ≤ k
    ·have f1 : (i2 : Int) ≤ (k : Int) := by omega
     have f2 : (k : Int) < (n : Int) := by omega
     have f3 : (a0 : Int) < (n : Int) := by omega
     obtain ⟨ck, -⟩ := HR1.out k (by rw [HD1.out]; omega)
     obtain ⟨ca, -⟩ := HR1.out a0 (by rw [HD1.out]; omega)
     by_cases hl : d1[a0]! < d1[k]!
     ·have C := Lh (fun w1 => show Calls Tryz.prog 167 #[.int .u8 d1[a0]!, .int .u8 d1[k]!] w1 fun e w' => e = .returned (.bool true) ∧ w' = w1 by have := Less8_any d1[a0]! d1[k]! w1; rwa [decide_eq_true hl] at this)
      obtain ⟨k0, hk0⟩ : ∃ k0, k0 + 1 = k := ⟨k - 1, by omega⟩
      have HK2 := Lh (show scanDown (fun x => ltInt d1[a0]! x) d1 i2 k0 = scanDown (fun x => ltInt d1[a0]! x) d1 i2 j0 by rw [← HK.out, ← hk0]; exact (scanDown_go (by omega) (by rw [hk0]; exact (by show ltInt d1[a0]! d1[k]! = true; unfold ltInt; rw [decide_eq_true hl]))).symm)
      have e1 : IntKind.i64.wrap ((k : Int) - 1) = (k0 : Int) := wsub1 hk0 (by omega)
      have HM := Lh (show k0 + 1 = k from hk0)
      clear hk0
      generalize d1[a0]! = x at *
      generalize d1[k]! = y at *
      clear hl hk' hf he HK
      go_wp2_with fail
      go_quiet ((go_at_call 167; with_reducible exact Calls.quiet_of_same (C.out _)))
      go_wp2_with fail
      go_roundw
      case rel => exact ⟨k0, rfl, Lh (by have := hk.out; have := HF.out; have := HQ2.out; have := HM.out; omega), Lh (HW1.out.drewN _), HR1, HK2⟩
      case measure => have := hk.out; have := HF.out; have := HQ2.out; have := HM.out; simp [intOf]; omega
     have C := Lh (fun w1 => show Calls Tryz.prog 167 #[.int .u8 d1[a0]!, .int .u8 d1[k]!] w1 fun e w' => e = .returned (.bool false) ∧ w' = w1 by have := Less8_any d1[a0]! d1[k]! w1; rwa [decide_eq_false hl] at this)
     have HX := Lh (show scanDown (fun x => ltInt d1[a0]! x) d1 i2 j0 = k by rw [← HK.out]; exact scanDown_stop (fun h => Bool.noConfusion ((show ((fun x => ltInt d1[a0]! x)) d1[k]! = false from (by show ltInt d1[a0]! d1[k]! = false; unfold ltInt; rw [decide_eq_false hl])).symm.trans h.2)) (by omega))
     have HQ := Lh hk'
     have hkj2 := hkj
     generalize d1[a0]! = x at C ck ca
     generalize d1[k]! = y at C ck ca
     clear hl hk' hf he HK hk
     go_wp2_with fail
     go_quiet ((go_at_call 167; with_reducible exact Calls.quiet_of_same (C.out _)))
     go_wp2_with fail
     replace HW1 := Lh (HW1.out.drewN nq)
     replace HR1 := Lh (show RowB (wr.drewN nq) b d1 from HR1.out)
     clear ck ca C
     generalize wr.drewN nq = wr at *
     have HG := Lh (show partEqLoop ltInt a0 i0 j0 d1 = if i2 > k then (i2, d1) else partEqLoop ltInt a0 (i2 + 1) (k - 1) (swp d1 i2 k) by rw [partEqLoop_eq ltInt a0 i0 j0 d1, HI2.out, HX.out])
     clear HX HI2
     have hik : ¬ k < i2 := Nat.not_lt.2 hkj2
     have g0 : ¬ (k : Int) < (i2 : Int) := by omega
     have HZ := Lh (show i2 < n ∧ k < n ∧ a0 < i2 ∧ i2 ≤ k by have := HQ.out; have := HQ2.out; have := HE0.out; have := HF.out; omega)
     obtain ⟨k0, hk0⟩ : ∃ k0, k0 + 1 = k := ⟨k - 1, by have := HZ.out; omega⟩
     have e1 : IntKind.i64.wrap ((k : Int) - 1) = (k0 : Int) := wsub1 hk0 (by have := HZ.out; omega)
     have e2 : IntKind.i64.wrap ((i2 : Int) + 1) = ((i2 + 1 : Nat) : Int) := wadd1 rfl (by have := HZ.out; omega)
     have f1 : (i2 : Int) < (n : Int) := by have := HZ.out; omega
     have f3 : (k : Int) < (n : Int) := by have := HZ.out; omega
     have HM := Lh hk0
     have HG2 := Lh (show partEqLoop ltInt a0 (i2 + 1) k0 (swp d1 i2 k) = partitionEqual ltInt d a0 b0 pv by rw [← HE1.out, HG.out, if_neg hik, show k - 1 = k0 by omega])
     clear HG HE1 hk0
     obtain ⟨cj, fj⟩ := HR1.out i2 (by rw [HD1.out]; have := HZ.out; omega)
     obtain ⟨cp, fp⟩ := HR1.out k (by rw [HD1.out]; have := HZ.out; omega)
     have HS := Lh (HR1.out.swap (i := i2) (j := k) (by rw [HD1.out]; have := HZ.out; omega) (by rw [HD1.out]; have := HZ.out; omega))
     have HD3 := Lh (show (swp d1 i2 k).size = n by rw [size_swp]; exact HD1.out)
     generalize swp d1 i2 k = d3 at *
     generalize d1[i2]! = x at *
     generalize d1[k]! = y at *
     have cp2 := cell_same cp i2
     have cj2 := cell_same cj k
     go_wp2_with fail
     go_region
     all_goals go_wp2
     go_roundw
     case rel => exact ⟨i2 + 1, k0, d3, by go_num, rfl, Lh (by clear e1 e2; have := HZ.out; have := HM.out; omega), Lh ((HW1.out.set i2 _).set k _).drew, HS, HD3, HG2⟩
     case measure => clear e1 e2; have := HZ.out; have := HM.out; have := HE0.out; have := HQ2.out; have := HQ.out; simp [intOf]; omega
    have f0 : ¬ i2 ≤ k := hkj
    have HX := Lh (show scanDown (fun x => ltInt d1[a0]! x) d1 i2 j0 = k by rw [← HK.out]; exact scanDown_stop (fun h => hkj h.1) (by omega))
    have HQ := Lh hk'
    clear hk' hf he HK hk
    go_wp2_with fail
    go_quiet (fail)
    go_wp2_with fail
    replace HW1 := Lh (HW1.out.drewN nq)
    replace HR1 := Lh (show RowB (wr.drewN nq) b d1 from HR1.out)
    generalize wr.drewN nq = wr at *
    have HG := Lh (show partEqLoop ltInt a0 i0 j0 d1 = if i2 > k then (i2, d1) else partEqLoop ltInt a0 (i2 + 1) (k - 1) (swp d1 i2 k) by rw [partEqLoop_eq ltInt a0 i0 j0 d1, HI2.out, HX.out])
    clear HX HI2
    have hik : k < i2 := Nat.lt_of_not_le f0
    have HG2 := Lh (show partitionEqual ltInt d a0 b0 pv = (i2, d1) by rw [← HE1.out, HG.out, if_pos hik])
    have g0 : (k : Int) < (i2 : Int) := by omega
    clear HG HE1
    go_wp2_with fail
    go_ret
    rw [HG2.out]
    exact ⟨rfl, HW1.out, HR1.out⟩
def partR (a i j : Nat) (d : Array Int) : Nat × Bool × Array Int := ((partLoop ltInt a i j d).1, false, swp (partLoop ltInt a i j d).2 (partLoop ltInt a i j d).1 a)
theorem part_eq {d d1 : Array Int} {a b pv i0 j0 : Nat} (h1 : swp d a pv = d1) (hb : b - 1 = j0) (hi : a + 1 = i0) (i2 : Nat) (hI : scanUp (fun x => ltInt x d1[a]!) d1 j0 i0 = i2) (k : Nat) (hK : scanDown (fun x => !ltInt x d1[a]!) d1 i2 j0 = k) :
  partition ltInt d a b pv = if i2 > k then (k, true, swp d1 k a) else partR a (i2 + 1) (k - 1) (swp d1 i2 k) := by
 unfold partition partR
 simp only [h1, hb, hi, hI, hK]
def RetWP (b x : Nat) (t : Bool) (d : Array Int) (w : World) (e : Ending) (w' : World) : Prop := e = .returned (.tuple #[.int .i64 x, .bool t]) ∧ Wr b w w' ∧ RowB w' b d
theorem part_any (b cap n a0 b0 pv : Nat) (d : Array Int) (w : World) (hd : d.size = n) (hn : n ≤ 1000000) (hab : a0 + 1 < b0) (hb : b0 ≤ n) (hp : pv < n) (hw : RowB w b d) :
  Calls Tryz.prog 212 #[.slice (some ⟨b, 0, none⟩) n cap, .int .i64 a0, .int .i64 b0, .int .i64 pv] w (RetWP b (partition ltInt d a0 b0 pv).1 (partition ltInt d a0 b0 pv).2.1 (partition ltInt d a0 b0 pv).2.2 w) := by
 obtain ⟨j0, hj0⟩ : ∃ j0, j0 + 1 = b0 := ⟨b0 - 1, by omega⟩
 obtain ⟨i0, hi0⟩ : ∃ i0, a0 + 1 = i0 := ⟨_, rfl⟩
 have HF := Lh (show a0 < n ∧ n ≤ 1000000 ∧ pv < n by omega)
 have HE0 := Lh (show a0 < i0 ∧ i0 ≤ j0 + 2 ∧ j0 < n by omega)
 have HE1 := Lh (part_eq (d := d) (d1 := swp d a0 pv) (a := a0) (b := b0) (pv := pv) rfl (show b0 - 1 = j0 by omega) hi0)
 have s1 : IntKind.i64.wrap ((b0 : Int) - 1) = (j0 : Int) := wsub1 hj0 (by omega)
 have s2 : IntKind.i64.wrap ((a0 : Int) + 1) = (i0 : Int) := wadd1 hi0 (by omega)
 have s3 : (a0 : Int) < (n : Int) := by omega
 have s4 : (pv : Int) < (n : Int) := by omega
 have HR1 := Lh (hw.swap (i := a0) (j := pv) (by omega) (by omega))
 have HD1 := Lh (show (swp d a0 pv).size = n by rw [size_swp]; exact hd)
 obtain ⟨cj, fj⟩ := hw a0 (by omega)
 obtain ⟨cp, fp⟩ := hw pv (by omega)
 obtain ⟨x, hx⟩ : ∃ x, d[a0]! = x := ⟨_, rfl⟩
 obtain ⟨y, hy⟩ : ∃ y, d[pv]! = y := ⟨_, rfl⟩
 rw [hx] at cj HR1
 rw [hy] at cp HR1
 generalize swp d a0 pv = d1 at *
 have cp2 := cell_same cp a0
 have cj2 := cell_same cj pv
 clear hx hy hj0 hi0 hab hb hp hw hd
 go_enter Tryz.func212, Tryz.ntmps212
 go_wp2_with fail
 go_region
 all_goals go_wp2
 have HW1 := Lh (show Wr b w (((w.setCell ⟨b, a0, none⟩ (.int .u8 y)).setCell ⟨b, pv, none⟩ (.int .u8 x)).drew) from ((Wr.refl b w).set a0 _ |>.set pv _).drew)
 clear cj fj cp fp cp2 cj2 s1 s2 s3 s4
 go_loopw [10] (fun v wr' => ∃ k : Nat, v = .int .i64 k ∧ Hid (i0 ≤ k ∧ k ≤ j0 + 2) ∧ Hid (Wr b w wr') ∧ Hid (RowB wr' b d1) ∧ Hid (scanUp (fun x => ltInt x d1[a0]!) d1 j0 k = scanUp (fun x => ltInt x d1[a0]!) d1 j0 i0)) (fun v _ => j0 + 1 - (intOf v).toNat)
 case atStart => exact ⟨i0, rfl, Lh (by have := HE0.out; omega), HW1, HR1, Lh rfl⟩
 case round =>
  clear HW1 HR1
  obtain ⟨k, rfl, hk, HW1, HR1, HK⟩ := hrel
  have hk' := hk.out
  have hf := HF.out
  have he := HE0.out
  by_cases hkj : k ≤ j0
  focus
   have f1 : (k : Int) ≤ (j0 : Int) := by omega
   have f2 : (k : Int) < (n : Int) := by omega
   have f3 : (a0 : Int) < (n : Int) := by omega
   obtain ⟨ck, -⟩ := HR1.out k (by rw [HD1.out]; omega)
   obtain ⟨ca, -⟩ := HR1.out a0 (by rw [HD1.out]; omega)
   by_cases hl : d1[k]! < d1[a0]!
   ·have C := Lh (fun w1 => show Calls Tryz.prog 167 #[.int .u8 d1[k]!, .int .u8 d1[a0]!] w1 fun e w' => e = .returned (.bool true) ∧ w' = w1 by have := Less8_any d1[k]! d1[a0]! w1; rwa [decide_eq_true hl] at this)
    have HK2 := Lh (show scanUp (fun x => ltInt x d1[a0]!) d1 j0 (k + 1) = scanUp (fun x => ltInt x d1[a0]!) d1 j0 i0 by rw [← HK.out]; exact (scanUp_go hkj (by show ltInt d1[k]! d1[a0]! = true; unfold ltInt; rw [decide_eq_true hl])).symm)
    have e1 : IntKind.i64.wrap ((k : Int) + 1) = ((k + 1 : Nat) : Int) := wadd1 rfl (by omega)
    generalize d1[k]! = x at *
    generalize d1[a0]! = y at *
    clear hl hk' hf he HK
    go_wp2_with fail
    go_quiet ((go_at_call 167; with_reducible exact Calls.quiet_of_same (C.out _)))
    go_wp2_with fail
    go_roundw
    case rel => exact ⟨k + 1, by go_num, Lh (by have := hk.out; have := HF.out; have := HE0.out; omega), Lh (HW1.out.drewN _), HR1, HK2⟩
    case measure => have := hk.out; have := HF.out; have := HE0.out; simp [intOf]; omega
   have C := Lh (fun w1 => show Calls Tryz.prog 167 #[.int .u8 d1[k]!, .int .u8 d1[a0]!] w1 fun e w' => e = .returned (.bool false) ∧ w' = w1 by have := Less8_any d1[k]! d1[a0]! w1; rwa [decide_eq_false hl] at this)
   have HX := Lh (show scanUp (fun x => ltInt x d1[a0]!) d1 j0 i0 = k by rw [← HK.out]; exact scanUp_stop (fun h => Bool.noConfusion ((show ((fun x => ltInt x d1[a0]!)) d1[k]! = false from (by show ltInt d1[k]! d1[a0]! = false; unfold ltInt; rw [decide_eq_false hl])).symm.trans h.2)))
   have HQ := Lh hk'
   have hkj2 := hkj
   generalize d1[k]! = x at C ck ca
   generalize d1[a0]! = y at C ck ca
   clear hl hk' hf he HK hk
   go_wp2_with fail
   go_quiet ((go_at_call 167; with_reducible exact Calls.quiet_of_same (C.out _)))
   go_wp2_with fail
   replace HW1 := Lh (HW1.out.drewN nq)
   replace HR1 := Lh (show RowB (wr.drewN nq) b d1 from HR1.out)
   clear ck ca C
  rotate_left
  focus
   have f0 : ¬ k ≤ j0 := hkj
   have HX := Lh (show scanUp (fun x => ltInt x d1[a0]!) d1 j0 i0 = k by rw [← HK.out]; exact scanUp_stop (fun h => hkj h.1))
   have HQ := Lh hk'
   clear hk' hf he HK hk
   go_wp2_with fail
   go_quiet (fail)
   go_wp2_with fail
   replace HW1 := Lh (HW1.out.drewN nq)
   replace HR1 := Lh (show RowB (wr.drewN nq) b d1 from HR1.out)
  all_goals
   generalize wr.drewN nq = wr at *
   obtain ⟨i2, hi2⟩ : ∃ i2, i2 = k := ⟨_, rfl⟩
   have HI2 := Lh (show scanUp (fun x => ltInt x d1[a0]!) d1 j0 i0 = i2 by rw [hi2]; exact HX.out)
   have HQ2 := Lh (show i0 ≤ i2 ∧ i2 ≤ j0 + 2 ∧ a0 < i0 ∧ j0 < n by rw [hi2]; have := HQ.out; have := HE0.out; omega)
   rw [← hi2]
   clear HX HQ
   try clear f0
   try clear f1
   try clear f2
   try clear f3
   try clear hkj
   clear hi2
   try clear k
   go_loopw [11] (fun v wr' => ∃ k : Nat, v = .int .i64 k ∧ Hid (k ≤ j0 ∧ i2 ≤ k + 2 ∧ k < n ∧ i0 ≤ i2 ∧ a0 < i0) ∧ Hid (Wr b w wr') ∧ Hid (RowB wr' b d1) ∧ Hid (scanDown (fun x => !ltInt x d1[a0]!) d1 i2 k = scanDown (fun x => !ltInt x d1[a0]!) d1 i2 j0)) (fun v _ => (intOf v + 1).toNat)
   case atStart => exact ⟨j0, rfl, Lh (by have := HQ2.out; omega), HW1, HR1, Lh rfl⟩
   case round =>
    clear HW1 HR1
    obtain ⟨k, rfl, hk, HW1, HR1, HK⟩ := hrel
    have hk' := hk.out
    have hf := HF.out
    have he := HQ2.out
    by_cases hkj : i2 ≤ k
    ·have f1 : (i2 : Int) ≤ (k : Int) := by omega
     have f2 : (k : Int) < (n : Int) := by omega
     have f3 : (a0 : Int) < (n : Int) := by omega
     obtain ⟨ck, -⟩ := HR1.out k (by rw [HD1.out]; omega)
     obtain ⟨ca, -⟩ := HR1.out a0 (by rw [HD1.out]; omega)
     by_cases hl : d1[k]! < d1[a0]!
     ·have C := Lh (fun w1 => show Calls Tryz.prog 167 #[.int .u8 d1[k]!, .int .u8 d1[a0]!] w1 fun e w' => e = .returned (.bool true) ∧ w' = w1 by have := Less8_any d1[k]! d1[a0]! w1; rwa [decide_eq_true hl] at this)
      have HX := Lh (show scanDown (fun x => !ltInt x d1[a0]!) d1 i2 j0 = k by rw [← HK.out]; exact scanDown_stop (fun h => Bool.noConfusion ((show ((fun x => !ltInt x d1[a0]!)) d1[k]! = false from (by show (!ltInt d1[k]! d1[a0]!) = false; unfold ltInt; rw [decide_eq_true hl]; rfl)).symm.trans h.2)) (by omega))
      have HQ := Lh hk'
      have hkj2 := hkj
      generalize d1[k]! = x at C ck ca
      generalize d1[a0]! = y at C ck ca
      clear hl hk' hf he HK hk
      go_wp2_with fail
      go_quiet ((go_at_call 167; with_reducible exact Calls.quiet_of_same (C.out _)))
      go_wp2_with fail
      replace HW1 := Lh (HW1.out.drewN nq)
      replace HR1 := Lh (show RowB (wr.drewN nq) b d1 from HR1.out)
      clear ck ca C
      generalize wr.drewN nq = wr at *
      have HG := Lh (show ¬ k < i2 → ∀ k0, k0 + 1 = k → partition ltInt d a0 b0 pv = partR a0 (i2 + 1) k0 (swp d1 i2 k) from fun h k0 hk0 => by
       have := HE1.out i2 HI2.out k HX.out
       rw [if_neg (show ¬ i2 > k from h), show k - 1 = k0 by omega] at this
       exact this)
      clear HX HI2 HE1
      have hik : ¬ k < i2 := Nat.not_lt.2 hkj2
      have g0 : ¬ (k : Int) < (i2 : Int) := by omega
      have HZ := Lh (show i2 < n ∧ k < n ∧ a0 < i2 ∧ i2 ≤ k by have := HQ.out; have := HQ2.out; have := HE0.out; have := HF.out; omega)
      obtain ⟨k0, hk0⟩ : ∃ k0, k0 + 1 = k := ⟨k - 1, by have := HZ.out; omega⟩
      have f1 : (i2 : Int) < (n : Int) := by have := HZ.out; omega
      have f3 : (k : Int) < (n : Int) := by have := HZ.out; omega
      have HM := Lh hk0
      have HP := Lh (HG.out hik k0 hk0)
      have e1 : IntKind.i64.wrap ((k : Int) - 1) = (k0 : Int) := wsub1 hk0 (by have := HZ.out; omega)
      have e2 : IntKind.i64.wrap ((i2 : Int) + 1) = ((i2 + 1 : Nat) : Int) := wadd1 rfl (by have := HZ.out; omega)
      clear HG hk0
      obtain ⟨cj, fj⟩ := HR1.out i2 (by rw [HD1.out]; have := HZ.out; omega)
      obtain ⟨cp, fp⟩ := HR1.out k (by rw [HD1.out]; have := HZ.out; omega)
      have HS := Lh (HR1.out.swap (i := i2) (j := k) (by rw [HD1.out]; have := HZ.out; omega) (by rw [HD1.out]; have := HZ.out; omega))
      have HD3 := Lh (show (swp d1 i2 k).size = n by rw [size_swp]; exact HD1.out)
      generalize swp d1 i2 k = d3 at *
      generalize d1[i2]! = x at *
      generalize d1[k]! = y at *
      have cp2 := cell_same cp i2
      have cj2 := cell_same cj k
      go_wp2_with fail
      go_region
      all_goals go_wp2
      clear cj fj cp fp cp2 cj2 e1 e2
      have HE9 := Lh (show a0 < i2 + 1 ∧ i2 + 1 ≤ k0 + 2 ∧ k0 < n by have := HZ.out; have := HM.out; omega)
      go_loopw [10, 11] (fun i j wr => ∃ (i0 j0 : Nat) (d1 : Array Int), i = .int .i64 i0 ∧ j = .int .i64 j0 ∧ Hid (a0 < i0 ∧ i0 ≤ j0 + 2 ∧ j0 < n) ∧ Hid (Wr b w wr) ∧ Hid (RowB wr b d1) ∧ Hid (d1.size = n) ∧ Hid (partition ltInt d a0 b0 pv = partR a0 i0 j0 d1)) (fun i j _ => (intOf j + 1 - intOf i).toNat)
      case atStart => exact ⟨i2 + 1, k0, d3, by go_num, rfl, HE9, Lh ((HW1.out.set i2 _).set k _).drew, HS, HD3, HP⟩
      case round =>
       clear HS HD3 HP HE0 HW1 HR1 HD1 HM HZ HQ HQ2 HE9 f1 f3 g0 hik hkj2
       try clear hkj
       obtain ⟨i0, j0, d1, rfl, rfl, HE0, HW1, HR1, HD1, HE1⟩ := hrel
       go_wp2_with fail
       go_loopw [10] (fun v wr' => ∃ k : Nat, v = .int .i64 k ∧ Hid (i0 ≤ k ∧ k ≤ j0 + 2) ∧ Hid (Wr b w wr') ∧ Hid (RowB wr' b d1) ∧ Hid (scanUp (fun x => ltInt x d1[a0]!) d1 j0 k = scanUp (fun x => ltInt x d1[a0]!) d1 j0 i0)) (fun v _ => j0 + 1 - (intOf v).toNat)
       case atStart => exact ⟨i0, rfl, Lh (by have := HE0.out; omega), HW1, HR1, Lh rfl⟩
       case round =>
        clear HW1 HR1
        obtain ⟨k, rfl, hk, HW1, HR1, HK⟩ := hrel
        have hk' := hk.out
        have hf := HF.out
        have he := HE0.out
        by_cases hkj : k ≤ j0
        focus
         have f1 : (k : Int) ≤ (j0 : Int) := by omega
         have f2 : (k : Int) < (n : Int) := by omega
         have f3 : (a0 : Int) < (n : Int) := by omega
         obtain ⟨ck, -⟩ := HR1.out k (by rw [HD1.out]; omega)
         obtain ⟨ca, -⟩ := HR1.out a0 (by rw [HD1.out]; omega)
         by_cases hl : d1[k]! < d1[a0]!
         ·have C := Lh (fun w1 => show Calls Tryz.prog 167 #[.int .u8 d1[k]!, .int .u8 d1[a0]!] w1 fun e w' => e = .returned (.bool true) ∧ w' = w1 by have := Less8_any d1[k]! d1[a0]! w1; rwa [decide_eq_true hl] at this)
          have HK2 := Lh (show scanUp (fun x => ltInt x d1[a0]!) d1 j0 (k + 1) = scanUp (fun x => ltInt x d1[a0]!) d1 j0 i0 by rw [← HK.out]; exact (scanUp_go hkj (by show ltInt d1[k]! d1[a0]! = true; unfold ltInt; rw [decide_eq_true hl])).symm)
          have e1 : IntKind.i64.wrap ((k : Int) + 1) = ((k + 1 : Nat) : Int) := wadd1 rfl (by omega)
          generalize d1[k]! = x at *
          generalize d1[a0]! = y at *
          clear hl hk' hf he HK
          go_wp2_with fail
          go_quiet ((go_at_call 167; with_reducible exact Calls.quiet_of_same (C.out _)))
          go_wp2_with fail
          go_roundw
          case rel => exact ⟨k + 1, by go_num, Lh (by have := hk.out; have := HF.out; have := HE0.out; omega), Lh (HW1.out.drewN _), HR1, HK2⟩
          case measure => have := hk.out; have := HF.out; have := HE0.out; simp [intOf]; omega
         have C := Lh (fun w1 => show Calls Tryz.prog 167 #[.int .u8 d1[k]!, .int .u8 d1[a0]!] w1 fun e w' => e = .returned (.bool false) ∧ w' = w1 by have := Less8_any d1[k]! d1[a0]! w1; rwa [decide_eq_false hl] at this)
         have HX := Lh (show scanUp (fun x => ltInt x d1[a0]!) d1 j0 i0 = k by rw [← HK.out]; exact scanUp_stop (fun h => Bool.noConfusion ((show ((fun x => ltInt x d1[a0]!)) d1[k]! = false from (by show ltInt d1[k]! d1[a0]! = false; unfold ltInt; rw [decide_eq_false hl])).symm.trans h.2)))
         have HQ := Lh hk'
         have hkj2 := hkj
         generalize d1[k]! = x at C ck ca
         generalize d1[a0]! = y at C ck ca
         clear hl hk' hf he HK hk
         go_wp2_with fail
         go_quiet ((go_at_call 167; with_reducible exact Calls.quiet_of_same (C.out _)))
         go_wp2_with fail
         replace HW1 := Lh (HW1.out.drewN nq)
         replace HR1 := Lh (show RowB (wr.drewN nq) b d1 from HR1.out)
         clear ck ca C
        rotate_left
        focus
         have f0 : ¬ k ≤ j0 := hkj
         have HX := Lh (show scanUp (fun x => ltInt x d1[a0]!) d1 j0 i0 = k by rw [← HK.out]; exact scanUp_stop (fun h => hkj h.1))
         have HQ := Lh hk'
         clear hk' hf he HK hk
         go_wp2_with fail
         go_quiet (fail)
         go_wp2_with fail
         replace HW1 := Lh (HW1.out.drewN nq)
         replace HR1 := Lh (show RowB (wr.drewN nq) b d1 from HR1.out)
        all_goals
         generalize wr.drewN nq = wr at *
         obtain ⟨i2, hi2⟩ : ∃ i2, i2 = k := ⟨_, rfl⟩
         have HI2 := Lh (show scanUp (fun x => ltInt x d1[a0]!) d1 j0 i0 = i2 by rw [hi2]; exact HX.out)
         have HQ2 := Lh (show i0 ≤ i2 ∧ i2 ≤ j0 + 2 ∧ a0 < i0 ∧ j0 < n by rw [hi2]; have := HQ.out; have := HE0.out; omega)
         rw [← hi2]
         clear HX HQ
         try clear f0
         try clear f1
         try clear f2
         try clear f3
         try clear hkj
         clear hi2
         try clear k
         go_loopw [11] (fun v wr' => ∃ k : Nat, v = .int .i64 k ∧ Hid (k ≤ j0 ∧ i2 ≤ k + 2 ∧ k < n ∧ i0 ≤ i2 ∧ a0 < i0) ∧ Hid (Wr b w wr') ∧ Hid (RowB wr' b d1) ∧ Hid (scanDown (fun x => !ltInt x d1[a0]!) d1 i2 k = scanDown (fun x => !ltInt x d1[a0]!) d1 i2 j0)) (fun v _ => (intOf v + 1).toNat)
         case atStart => exact ⟨j0, rfl, Lh (by have := HQ2.out; omega), HW1, HR1, Lh rfl⟩
         case round =>
          clear HW1 HR1
          obtain ⟨k, rfl, hk, HW1, HR1, HK⟩ := hrel
          have hk' := hk.out
          have hf := HF.out
          have he := HQ2.out
          by_cases hkj : i2 ≤ k
          ·have f1 : (i2 : Int) ≤ (k : Int) := by omega
           have f2 : (k : Int) < (n : Int) := by omega
           have f3 : (a0 : Int) < (n : Int) := by omega
           obtain ⟨ck, -⟩ := HR1.out k (by rw [HD1.out]; omega)
           obtain ⟨ca, -⟩ := HR1.out a0 (by rw [HD1.out]; omega)
           by_cases hl : d1[k]! < d1[a0]!
           ·have C := Lh (fun w1 => show Calls Tryz.prog 167 #[.int .u8 d1[k]!, .int .u8 d1[a0]!] w1 fun e w' => e = .returned (.bool true) ∧ w' = w1 by have := Less8_any d1[k]! d1[a0]! w1; rwa [decide_eq_true hl] at this)
            have HX := Lh (show scanDown (fun x => !ltInt x d1[a0]!) d1 i2 j0 = k by rw [← HK.out]; exact scanDown_stop (fun h => Bool.noConfusion ((show ((fun x => !ltInt x d1[a0]!)) d1[k]! = false from (by show (!ltInt d1[k]! d1[a0]!) = false; unfold ltInt; rw [decide_eq_true hl]; rfl)).symm.trans h.2)) (by omega))
            have HQ := Lh hk'
            have hkj2 := hkj
            generalize d1[k]! = x at C ck ca
            generalize d1[a0]! = y at C ck ca
            clear hl hk' hf he HK hk
            go_wp2_with fail
            go_quiet ((go_at_call 167; with_reducible exact Calls.quiet_of_same (C.out _)))
            go_wp2_with fail
            replace HW1 := Lh (HW1.out.drewN nq)
            replace HR1 := Lh (show RowB (wr.drewN nq) b d1 from HR1.out)
            clear ck ca C
            generalize wr.drewN nq = wr at *
            have HG := Lh (show ¬ k < i2 → ∀ k0, k0 + 1 = k → partition ltInt d a0 b0 pv = partR a0 (i2 + 1) k0 (swp d1 i2 k) from fun h k0 hk0 => by
             rw [HE1.out]; unfold partR; rw [partLoop_eq ltInt a0 i0 j0 d1, HI2.out, HX.out, if_neg (show ¬ i2 > k from h), show k - 1 = k0 by omega])
            clear HX HI2 HE1
            have hik : ¬ k < i2 := Nat.not_lt.2 hkj2
            have g0 : ¬ (k : Int) < (i2 : Int) := by omega
            have HZ := Lh (show i2 < n ∧ k < n ∧ a0 < i2 ∧ i2 ≤ k by have := HQ.out; have := HQ2.out; have := HE0.out; have := HF.out; omega)
            obtain ⟨k0, hk0⟩ : ∃ k0, k0 + 1 = k := ⟨k - 1, by have := HZ.out; omega⟩
            have f1 : (i2 : Int) < (n : Int) := by have := HZ.out; omega
            have f3 : (k : Int) < (n : Int) := by have := HZ.out; omega
            have HM := Lh hk0
            have HP := Lh (HG.out hik k0 hk0)
            have e1 : IntKind.i64.wrap ((k : Int) - 1) = (k0 : Int) := wsub1 hk0 (by have := HZ.out; omega)
            have e2 : IntKind.i64.wrap ((i2 : Int) + 1) = ((i2 + 1 : Nat) : Int) := wadd1 rfl (by have := HZ.out; omega)
            clear HG hk0
            obtain ⟨cj, fj⟩ := HR1.out i2 (by rw [HD1.out]; have := HZ.out; omega)
            obtain ⟨cp, fp⟩ := HR1.out k (by rw [HD1.out]; have := HZ.out; omega)
            have HS := Lh (HR1.out.swap (i := i2) (j := k) (by rw [HD1.out]; have := HZ.out; omega) (by rw [HD1.out]; have := HZ.out; omega))
            have HD3 := Lh (show (swp d1 i2 k).size = n by rw [size_swp]; exact HD1.out)
            generalize swp d1 i2 k = d3 at *
            generalize d1[i2]! = x at *
            generalize d1[k]! = y at *
            have cp2 := cell_same cp i2
            have cj2 := cell_same cj k
            go_wp2_with fail
            go_region
            all_goals go_wp2
            go_roundw
            case rel => exact ⟨i2 + 1, k0, d3, by go_num, rfl, Lh (by clear e1 e2; have := HZ.out; have := HM.out; omega), Lh ((HW1.out.set i2 _).set k _).drew, HS, HD3, HP⟩
            case measure => clear e1 e2; have := HZ.out; have := HM.out; have := HE0.out; have := HQ2.out; have := HQ.out; simp [intOf]; omega
           have C := Lh (fun w1 => show Calls Tryz.prog 167 #[.int .u8 d1[k]!, .int .u8 d1[a0]!] w1 fun e w' => e = .returned (.bool false) ∧ w' = w1 by have := Less8_any d1[k]! d1[a0]! w1; rwa [decide_eq_false hl] at this)
           obtain ⟨k0, hk0⟩ : ∃ k0, k0 + 1 = k := ⟨k - 1, by omega⟩
           have HK2 := Lh (show scanDown (fun x => !ltInt x d1[a0]!) d1 i2 k0 = scanDown (fun x => !ltInt x d1[a0]!) d1 i2 j0 by rw [← HK.out, ← hk0]; exact (scanDown_go (by omega) (by rw [hk0]; exact (by show (!ltInt d1[k]! d1[a0]!) = true; unfold ltInt; rw [decide_eq_false hl]; rfl))).symm)
           have e1 : IntKind.i64.wrap ((k : Int) - 1) = (k0 : Int) := wsub1 hk0 (by omega)
           have HM := Lh (show k0 + 1 = k from hk0)
           clear hk0
           generalize d1[k]! = x at *
           generalize d1[a0]! = y at *
           clear hl hk' hf he HK
           go_wp2_with fail
           go_quiet ((go_at_call 167; with_reducible exact Calls.quiet_of_same (C.out _)))
           go_wp2_with fail
           go_roundw
           case rel => exact ⟨k0, rfl, Lh (by have := hk.out; have := HF.out; have := HQ2.out; have := HM.out; omega), Lh (HW1.out.drewN _), HR1, HK2⟩
           case measure => have := hk.out; have := HF.out; have := HQ2.out; have := HM.out; simp [intOf]; omega
          have f0 : ¬ i2 ≤ k := hkj
          have HX := Lh (show scanDown (fun x => !ltInt x d1[a0]!) d1 i2 j0 = k by rw [← HK.out]; exact scanDown_stop (fun h => hkj h.1) (by omega))
          have HQ := Lh hk'
          clear hk' hf he HK hk
          go_wp2_with fail
          go_quiet (fail)
          go_wp2_with fail
          replace HW1 := Lh (HW1.out.drewN nq)
          replace HR1 := Lh (show RowB (wr.drewN nq) b d1 from HR1.out)
          generalize wr.drewN nq = wr at *
          have hik : k < i2 := Nat.lt_of_not_le f0
          have HP := Lh (show partition ltInt d a0 b0 pv = (k, false, swp d1 k a0) by rw [HE1.out]; unfold partR; rw [partLoop_eq ltInt a0 i0 j0 d1, HI2.out, HX.out, if_pos (show i2 > k from hik)])
          have g0 : (k : Int) < (i2 : Int) := by omega
          clear HX HI2 HE1
          have HZ := Lh (show k < n ∧ a0 < n by have := HQ.out; have := HF.out; omega)
          have f1 : (k : Int) < (n : Int) := by have := HZ.out; omega
          have f3 : (a0 : Int) < (n : Int) := by have := HZ.out; omega
          obtain ⟨cj, fj⟩ := HR1.out k (by rw [HD1.out]; have := HZ.out; omega)
          obtain ⟨cp, fp⟩ := HR1.out a0 (by rw [HD1.out]; have := HZ.out; omega)
          have HS := Lh (HR1.out.swap (i := k) (j := a0) (by rw [HD1.out]; have := HZ.out; omega) (by rw [HD1.out]; have := HZ.out; omega))
          generalize swp d1 k a0 = d3 at *
          generalize d1[k]! = x at *
          generalize d1[a0]! = y at *
          have cp2 := cell_same cp k
          have cj2 := cell_same cj a0
          go_wp2_with fail
          go_region
          all_goals go_wp2
          refine bodyPost_ret (v := .tuple #[.int .i64 k, .bool false]) (by simp [results, Tryz.results212, go_sem]) rfl ?_
          rw [HP.out]
          exact ⟨rfl, ((HW1.out.set k _).set a0 _).drew, HS.out⟩
     have C := Lh (fun w1 => show Calls Tryz.prog 167 #[.int .u8 d1[k]!, .int .u8 d1[a0]!] w1 fun e w' => e = .returned (.bool false) ∧ w' = w1 by have := Less8_any d1[k]! d1[a0]! w1; rwa [decide_eq_false hl] at this)
     obtain ⟨k0, hk0⟩ : ∃ k0, k0 + 1 = k := ⟨k - 1, by omega⟩
     have HK2 := Lh (show scanDown (fun x => !ltInt x d1[a0]!) d1 i2 k0 = scanDown (fun x => !ltInt x d1[a0]!) d1 i2 j0 by rw [← HK.out, ← hk0]; exact (scanDown_go (by omega) (by rw [hk0]; exact (by show (!ltInt d1[k]! d1[a0]!) = true; unfold ltInt; rw [decide_eq_false hl]; rfl))).symm)
     have e1 : IntKind.i64.wrap ((k : Int) - 1) = (k0 : Int) := wsub1 hk0 (by omega)
     have HM := Lh (show k0 + 1 = k from hk0)
     clear hk0
     generalize d1[k]! = x at *
     generalize d1[a0]! = y at *
     clear hl hk' hf he HK
     go_wp2_with fail
     go_quiet ((go_at_call 167; with_reducible exact Calls.quiet_of_same (C.out _)))
     go_wp2_with fail
     go_roundw
     case rel => exact ⟨k0, rfl, Lh (by have := hk.out; have := HF.out; have := HQ2.out; have := HM.out; omega), Lh (HW1.out.drewN _), HR1, HK2⟩
     case measure => have := hk.out; have := HF.out; have := HQ2.out; have := HM.out; simp [intOf]; omega
    have f0 : ¬ i2 ≤ k := hkj
    have HX := Lh (show scanDown (fun x => !ltInt x d1[a0]!) d1 i2 j0 = k by rw [← HK.out]; exact scanDown_stop (fun h => hkj h.1) (by omega))
    have HQ := Lh hk'
    clear hk' hf he HK hk
    go_wp2_with fail
    go_quiet (fail)
    go_wp2_with fail
    replace HW1 := Lh (HW1.out.drewN nq)
    replace HR1 := Lh (show RowB (wr.drewN nq) b d1 from HR1.out)
    generalize wr.drewN nq = wr at *
    have hik : k < i2 := Nat.lt_of_not_le f0
    have HP := Lh (show partition ltInt d a0 b0 pv = (k, true, swp d1 k a0) by
     have := HE1.out i2 HI2.out k HX.out
     rwa [if_pos (show i2 > k from hik)] at this)
    have g0 : (k : Int) < (i2 : Int) := by omega
    clear HX HI2 HE1
    have HZ := Lh (show k < n ∧ a0 < n by have := HQ.out; have := HF.out; omega)
    have f1 : (k : Int) < (n : Int) := by have := HZ.out; omega
    have f3 : (a0 : Int) < (n : Int) := by have := HZ.out; omega
    obtain ⟨cj, fj⟩ := HR1.out k (by rw [HD1.out]; have := HZ.out; omega)
    obtain ⟨cp, fp⟩ := HR1.out a0 (by rw [HD1.out]; have := HZ.out; omega)
    have HS := Lh (HR1.out.swap (i := k) (j := a0) (by rw [HD1.out]; have := HZ.out; omega) (by rw [HD1.out]; have := HZ.out; omega))
    generalize swp d1 k a0 = d3 at *
    generalize d1[k]! = x at *
    generalize d1[a0]! = y at *
    have cp2 := cell_same cp k
    have cj2 := cell_same cj a0
    go_wp2_with fail
    go_region
    all_goals go_wp2
    refine bodyPost_ret (v := .tuple #[.int .i64 k, .bool true]) (by simp [results, Tryz.results212, go_sem]) rfl ?_
    rw [HP.out]
    exact ⟨rfl, ((HW1.out.set k _).set a0 _).drew, HS.out⟩
end Go.Proofs.YtehdemcfeoiecaaGreatDoor
