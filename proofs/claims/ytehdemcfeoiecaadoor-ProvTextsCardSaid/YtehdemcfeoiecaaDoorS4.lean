/- The library's sort at bytes: reverseRange, order2, median, medianAdjacent, choosePivot. -/
import Derived.Test.YtehdemcfeoiecaaDoorS3
namespace Go.Proofs.YtehdemcfeoiecaaDoor
open Go.RowKit Go.Firn Go.Sort

theorem rev_go {i j : Nat} {d : Array Int} (h : i < j) : reverseLoop i j d = reverseLoop (i + 1) (j - 1) (swp d i j) := by
  conv => lhs; unfold reverseLoop
  rw [if_pos h]
theorem rev_end {i j : Nat} {d : Array Int} (h : ¬ i < j) : reverseLoop i j d = d := by
  unfold reverseLoop; rw [if_neg h]

set_option maxRecDepth 100000 in
set_option maxHeartbeats 8000000 in
theorem rev_any (b cap n a0 b0 : Nat) (d : Array Int) (w : World) (hd : d.size = n) (hn : n ≤ 1000000) (hab : a0 < b0) (hb : b0 ≤ n) (hw : RowB w b d) :
    Calls Tryd.prog 100 #[.slice (some ⟨b, 0, none⟩) n cap, .int .i64 a0, .int .i64 b0] w (RetW b (reverseRange d a0 b0) w) := by
  have HW := Lib.hid hw
  have HD := Lib.hid hd
  obtain ⟨b1, hb1⟩ : ∃ b1, b1 + 1 = b0 := ⟨b0 - 1, by omega⟩
  have e0 : IntKind.i64.wrap ((b0 : Int) - 1) = (b1 : Int) := wsub1 hb1 (by omega)
  have HR := Lib.hid (show reverseRange d a0 b0 = reverseLoop a0 b1 d by unfold reverseRange; rw [show b0 - 1 = b1 by omega])
  have HF := Lib.hid (show a0 ≤ b1 ∧ b1 < n by omega)
  clear hw hd hb1 hab hb
  go_enter Tryd.func100, Tryd.ntmps100
  go_wp2_with fail
  clear e0
  go_loopw [6, 7] (fun i j wr => ∃ (k l : Nat) (d1 : Array Int), i = .int .i64 k ∧ j = .int .i64 l ∧ Hid (l < n ∧ k ≤ l + 1) ∧ Hid (Wr b w wr) ∧ Hid (RowB wr b d1) ∧ Hid (d1.size = n) ∧ Hid (reverseLoop k l d1 = reverseRange d a0 b0)) (fun i j _ => (intOf j - intOf i).toNat)
  case atStart => exact ⟨a0, b1, d, rfl, rfl, Lib.hid (by have := HF.out; omega), Lib.hid (Wr.refl _ _), HW, HD, Lib.hid HR.out.symm⟩
  case round =>
    obtain ⟨k, l, d1, rfl, rfl, hk, HW2, HR1, HD1, HE1⟩ := hrel
    by_cases hkl : k < l
    · have i0 : (k : Int) < (l : Int) := by omega
      obtain ⟨l1, hl1⟩ : ∃ l1, l1 + 1 = l := ⟨l - 1, by omega⟩
      have e1 : IntKind.i64.wrap ((l : Int) - 1) = (l1 : Int) := wsub1 hl1 (by have := hk.out; omega)
      have i1 : (k : Int) < (n : Int) := by have := hk.out; omega
      have i2 : (l : Int) < (n : Int) := by have := hk.out; omega
      have HM := Lib.hid (show l1 < n ∧ k + 1 ≤ l1 + 1 ∧ l1 < l by have := hk.out; omega)
      have HN := Lib.hid (show k ≠ l by omega)
      have HE4 := Lib.hid (show reverseLoop (k + 1) l1 (swp d1 k l) = reverseRange d a0 b0 by rw [← HE1.out, rev_go hkl, show l - 1 = l1 by omega])
      obtain ⟨cj, fj⟩ := HR1.out k (by rw [HD1.out]; have := hk.out; omega)
      obtain ⟨cp, fp⟩ := HR1.out l (by rw [HD1.out]; have := hk.out; omega)
      have HS := Lib.hid (HR1.out.swap (i := k) (j := l) (by rw [HD1.out]; have := hk.out; omega) (by rw [HD1.out]; have := hk.out; omega))
      have HD3 := Lib.hid (show (swp d1 k l).size = n by rw [size_swp]; exact HD1.out)
      generalize swp d1 k l = d3 at *
      generalize d1[k]! = x at *
      generalize d1[l]! = y at *
      clear hl1
      have cp2 := cell_by (k := k) cp HN.out (.int .u8 y)
      have cj2 := cell_by (k := l) cj HN.out.symm (.int .u8 x)
      go_wp2_with fail
      go_region
      all_goals go_wp2
      go_roundw
      case rel => exact ⟨k + 1, l1, d3, by go_num, rfl, Lib.hid ⟨HM.out.1, HM.out.2.1⟩, Lib.hid ((HW2.out.set k _).set l _).drew, HS, HD3, HE4⟩
      case measure => have := HM.out; simp [intOf]; omega
    · have i0 : ¬ (k : Int) < (l : Int) := by omega
      go_wp2_with fail
      go_end0
      exact ⟨rfl, HW2.out, by rw [← HE1.out, rev_end hkl]; exact HR1.out⟩

/-- The count of exchanges lies in a block of its own. -/
def BxI (w : World) (s : Nat) (x : Int) : Prop := w.cell? ⟨s, 0, none⟩ = some (.int .i64 x) ∧ w.frozen? ⟨s, 0, none⟩ = false
theorem BxI.set {w : World} {s : Nat} {x : Int} (h : BxI w s x) (y : Int) : BxI (w.setCell ⟨s, 0, none⟩ (.int .i64 y)) s y := ⟨cell_near h.1 _, by simpa using h.2⟩
theorem _root_.Go.Firn.RowB.wr {w w' : World} {b s : Nat} {d : Array Int} (h : RowB w b d) (g : Wr s w w') (hne : b ≠ s) : RowB w' b d :=
  fun p hp => ⟨g.cell (h p hp).1 hne, by
    rw [World.frozen?_of_block (g.block b (World.block_lt_of_cell? w _ (h p hp).1) (fun e => hne (Option.some.inj e)))]
    exact (h p hp).2⟩
/-- What order2 and median leave. -/
def Ret2 (s : Nat) (x y : Nat) (k : Nat) (w : World) (e : Ending) (w' : World) : Prop := e = .returned (.tuple #[.int .i64 x, .int .i64 y]) ∧ Wr s w w' ∧ BxI w' s k
def Ret1 (s : Nat) (x : Nat) (k : Nat) (w : World) (e : Ending) (w' : World) : Prop := e = .returned (.int .i64 x) ∧ Wr s w w' ∧ BxI w' s k

set_option maxRecDepth 100000 in
set_option maxHeartbeats 4000000 in
theorem order2_any (b cap n s x y k : Nat) (d : Array Int) (w : World) (hd : d.size = n) (hx : x < n) (hy : y < n) (hk : k ≤ 100) (hw : RowB w b d) (hs : BxI w s k) :
    Calls Tryd.prog 146 #[.slice (some ⟨b, 0, none⟩) n cap, .int .i64 x, .int .i64 y, .pointer (some ⟨s, 0, none⟩)] w (Ret2 s (order2 ltInt d x y k).1 (order2 ltInt d x y k).2.1 (order2 ltInt d x y k).2.2 w) := by
  have HS := Lib.hid hs
  obtain ⟨cx, -⟩ := hw x (by omega)
  obtain ⟨cy, -⟩ := hw y (by omega)
  obtain ⟨cs, fs⟩ := hs
  have i1 : (x : Int) < (n : Int) := by omega
  have i2 : (y : Int) < (n : Int) := by omega
  have e1 : IntKind.i64.wrap ((k : Int) + 1) = ((k + 1 : Nat) : Int) := wadd1 rfl (by omega)
  by_cases hl : d[y]! < d[x]!
  · have HO : order2 ltInt d x y k = (y, x, k + 1) := by unfold order2 ltInt; rw [if_pos (by simpa using hl)]
    rw [HO]
    have C := Lib.hid (fun w1 => show Calls Tryd.prog 93 #[.int .u8 d[y]!, .int .u8 d[x]!] w1 fun e w' => e = .returned (.bool true) ∧ w' = w1 by have := Less8_any d[y]! d[x]! w1; rwa [decide_eq_true hl] at this)
    generalize d[x]! = u at *
    generalize d[y]! = v at *
    clear hw hd hl HO
    go_enter Tryd.func146, Tryd.ntmps146
    go_wp2_with fail
    go_quiet ((go_at_call 93; with_reducible exact Calls.quiet_of_same (C.out _)))
    go_wp2_with fail
    replace cs : (w.drewN nq).cell? ⟨s, 0, none⟩ = some (.int .i64 k) := cs
    replace fs : (w.drewN nq).frozen? ⟨s, 0, none⟩ = false := fs
    have GG := Lib.hid (show Wr s w (w.drewN nq) from (Wr.refl _ _).drewN _)
    replace HS := Lib.hid (show BxI (w.drewN nq) s k from HS.out)
    generalize w.drewN nq = wq at *
    go_wp2_with fail
    refine bodyPost_ret (v := .tuple #[.int .i64 y, .int .i64 x]) (by simp [results, Tryd.results146, go_sem]) rfl ?_
    exact ⟨rfl, GG.out.set 0 _, HS.out.set _⟩
  · have HO : order2 ltInt d x y k = (x, y, k) := by unfold order2 ltInt; rw [if_neg (by simpa using hl)]
    rw [HO]
    have C := Lib.hid (fun w1 => show Calls Tryd.prog 93 #[.int .u8 d[y]!, .int .u8 d[x]!] w1 fun e w' => e = .returned (.bool false) ∧ w' = w1 by have := Less8_any d[y]! d[x]! w1; rwa [decide_eq_false hl] at this)
    generalize d[x]! = u at *
    generalize d[y]! = v at *
    clear hw hd hl HO
    go_enter Tryd.func146, Tryd.ntmps146
    go_wp2_with fail
    go_quiet ((go_at_call 93; with_reducible exact Calls.quiet_of_same (C.out _)))
    go_wp2_with fail
    refine bodyPost_ret (v := .tuple #[.int .i64 x, .int .i64 y]) (by simp [results, Tryd.results146, go_sem]) rfl ?_
    exact ⟨rfl, (Wr.refl _ _).drewN _, HS.out⟩

theorem order2_of (d : Array Int) (x y k : Nat) : ((order2 ltInt d x y k).1 = x ∧ (order2 ltInt d x y k).2.1 = y ∨ (order2 ltInt d x y k).1 = y ∧ (order2 ltInt d x y k).2.1 = x) ∧ k ≤ (order2 ltInt d x y k).2.2 ∧ (order2 ltInt d x y k).2.2 ≤ k + 1 := by
  unfold order2
  split
  · exact ⟨.inr ⟨rfl, rfl⟩, by show k ≤ k + 1; omega, Nat.le_refl _⟩
  · exact ⟨.inl ⟨rfl, rfl⟩, Nat.le_refl _, by show k ≤ k + 1; omega⟩
theorem median_of (d : Array Int) {n x y z k : Nat} (hx : x < n) (hy : y < n) (hz : z < n) : (median ltInt d x y z k).1 < n ∧ k ≤ (median ltInt d x y z k).2 ∧ (median ltInt d x y z k).2 ≤ k + 3 := by
  unfold median
  simp only []
  obtain ⟨o1, l1, m1⟩ := order2_of d x y k
  obtain ⟨o2, l2, m2⟩ := order2_of d (order2 ltInt d x y k).2.1 z (order2 ltInt d x y k).2.2
  obtain ⟨o3, l3, m3⟩ := order2_of d (order2 ltInt d x y k).1 (order2 ltInt d (order2 ltInt d x y k).2.1 z (order2 ltInt d x y k).2.2).1 (order2 ltInt d (order2 ltInt d x y k).2.1 z (order2 ltInt d x y k).2.2).2.2
  refine ⟨?_, by omega, by omega⟩
  rcases o1 with ⟨a1, b1⟩ | ⟨a1, b1⟩ <;> rcases o2 with ⟨a2, b2⟩ | ⟨a2, b2⟩ <;> rcases o3 with ⟨a3, b3⟩ | ⟨a3, b3⟩ <;> omega

set_option maxRecDepth 100000 in
set_option maxHeartbeats 4000000 in
theorem median_any (b cap n s x y z k : Nat) (d : Array Int) (w : World) (hbs : b ≠ s) (hd : d.size = n) (hx : x < n) (hy : y < n) (hz : z < n) (hk : k ≤ 90) (hw : RowB w b d) (hs : BxI w s k) :
    Calls Tryd.prog 130 #[.slice (some ⟨b, 0, none⟩) n cap, .int .i64 x, .int .i64 y, .int .i64 z, .pointer (some ⟨s, 0, none⟩)] w (Ret1 s (median ltInt d x y z k).1 (median ltInt d x y z k).2 w) := by
  obtain ⟨o1, l1, m1⟩ := order2_of d x y k
  have C1 := Lib.hid (order2_any b cap n s x y k d w hd hx hy (by omega) hw hs)
  obtain ⟨x1, y1, k1, h1⟩ : ∃ x1 y1 k1, order2 ltInt d x y k = (x1, y1, k1) := ⟨_, _, _, rfl⟩
  rw [h1] at C1 o1 l1 m1
  simp only [] at o1 l1 m1
  have hx1 : x1 < n := by omega
  have hy1 : y1 < n := by omega
  obtain ⟨o2, l2, m2⟩ := order2_of d y1 z k1
  have C2 := Lib.hid (fun w1 (g : Wr s w w1) (h : BxI w1 s k1) => order2_any b cap n s y1 z k1 d w1 hd hy1 hz (by omega) (hw.wr g hbs) h)
  obtain ⟨y2, z2, k2, h2⟩ : ∃ y2 z2 k2, order2 ltInt d y1 z k1 = (y2, z2, k2) := ⟨_, _, _, rfl⟩
  rw [h2] at C2 o2 l2 m2
  simp only [] at o2 l2 m2
  have hy2 : y2 < n := by omega
  obtain ⟨o3, l3, m3⟩ := order2_of d x1 y2 k2
  have C3 := Lib.hid (fun w1 (g : Wr s w w1) (h : BxI w1 s k2) => order2_any b cap n s x1 y2 k2 d w1 hd hx1 hy2 (by omega) (hw.wr g hbs) h)
  obtain ⟨x3, y3, k3, h3⟩ : ∃ x3 y3 k3, order2 ltInt d x1 y2 k2 = (x3, y3, k3) := ⟨_, _, _, rfl⟩
  rw [h3] at C3
  have HO : median ltInt d x y z k = (y3, k3) := by unfold median; simp only [h1, h2, h3]
  rw [HO]
  clear HO h1 h2 h3 o1 o2 o3 l1 l2 l3 m1 m2 m3 hw hs hd
  go_enter Tryd.func130, Tryd.ntmps130
  go_wp2_with fail
  refine C1.out.mono ?_
  rintro e w1 ⟨rfl, g1, s1⟩
  have G1 := Lib.hid g1
  have S1 := Lib.hid s1
  clear g1 s1
  go_wp2_with fail
  refine (C2.out _ G1.out S1.out).mono ?_
  rintro e w2 ⟨rfl, g2, s2⟩
  have G2 := Lib.hid (G1.out.trans g2)
  have S2 := Lib.hid s2
  clear g2 s2
  go_wp2_with fail
  refine (C3.out _ G2.out S2.out).mono ?_
  rintro e w3 ⟨rfl, g3, s3⟩
  have G3 := Lib.hid (G2.out.trans g3)
  have S3 := Lib.hid s3
  clear g3 s3
  go_wp2_with fail
  go_ret
  exact ⟨rfl, G3.out, S3.out⟩

set_option maxRecDepth 100000 in
set_option maxHeartbeats 4000000 in
theorem medAdj_any (b cap n s x k : Nat) (d : Array Int) (w : World) (hbs : b ≠ s) (hd : d.size = n) (hn : n ≤ 1000000) (hx : 0 < x) (hx2 : x + 1 < n) (hk : k ≤ 90) (hw : RowB w b d) (hs : BxI w s k) :
    Calls Tryd.prog 129 #[.slice (some ⟨b, 0, none⟩) n cap, .int .i64 x, .pointer (some ⟨s, 0, none⟩)] w (Ret1 s (medianAdjacent ltInt d x k).1 (medianAdjacent ltInt d x k).2 w) := by
  obtain ⟨x0, h0⟩ : ∃ x0, x0 + 1 = x := ⟨x - 1, by omega⟩
  have e1 : IntKind.i64.wrap ((x : Int) - 1) = (x0 : Int) := wsub1 h0 (by omega)
  have e2 : IntKind.i64.wrap ((x : Int) + 1) = ((x + 1 : Nat) : Int) := wadd1 rfl (by omega)
  have C1 := Lib.hid (median_any b cap n s x0 x (x + 1) k d w hbs hd (by omega) (by omega) hx2 hk hw hs)
  have HO : medianAdjacent ltInt d x k = median ltInt d x0 x (x + 1) k := by unfold medianAdjacent; rw [show x - 1 = x0 by omega]
  rw [HO]
  generalize median ltInt d x0 x (x + 1) k = r at *
  obtain ⟨x1, hx1⟩ : ∃ x1, x + 1 = x1 := ⟨_, rfl⟩
  rw [hx1] at e2 C1
  clear HO h0 hw hs hd hx hx2 hx1
  go_enter Tryd.func129, Tryd.ntmps129
  go_wp2_with fail
  refine C1.out.mono ?_
  rintro e w1 ⟨rfl, g1, s1⟩
  have G1 := Lib.hid g1
  have S1 := Lib.hid s1
  clear g1 s1
  go_wp2_with fail
  go_ret
  exact ⟨rfl, G1.out, S1.out⟩

end Go.Proofs.YtehdemcfeoiecaaDoor
