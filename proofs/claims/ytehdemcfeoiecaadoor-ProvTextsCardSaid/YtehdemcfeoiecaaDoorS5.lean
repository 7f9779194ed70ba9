/- The library's sort at bytes: choosePivot. -/
import Derived.Test.YtehdemcfeoiecaaDoorS4
import Derived.Sort.LotD5
namespace Go.Proofs.YtehdemcfeoiecaaDoor
open Go.RowKit Go.Firn Go.Sort

def hintC : Hint → Int
  | .unknown => 0
  | .increasing => 1
  | .decreasing => 2
/-- A pivot and a hint. -/
def RetP (p : Nat) (h : Hint) (w : World) (e : Ending) (w' : World) : Prop := e = .returned (.tuple #[.int .i64 p, .int .i64 (hintC h)]) ∧ Gr w w'

def pivR (d : Array Int) (l i j k : Nat) : Nat × Nat :=
  if l ≥ 50 then median ltInt d (medianAdjacent ltInt d i 0).1 (medianAdjacent ltInt d j (medianAdjacent ltInt d i 0).2).1 (medianAdjacent ltInt d k (medianAdjacent ltInt d j (medianAdjacent ltInt d i 0).2).2).1 (medianAdjacent ltInt d k (medianAdjacent ltInt d j (medianAdjacent ltInt d i 0).2).2).2
  else median ltInt d i j k 0
theorem choose_eq {d : Array Int} {a b : Nat} (h : 8 ≤ b - a) : choosePivot ltInt d a b = ((pivR d (b - a) (a + (b - a) / 4 * 1) (a + (b - a) / 4 * 2) (a + (b - a) / 4 * 3)).1, if (pivR d (b - a) (a + (b - a) / 4 * 1) (a + (b - a) / 4 * 2) (a + (b - a) / 4 * 3)).2 = 0 then .increasing else if (pivR d (b - a) (a + (b - a) / 4 * 1) (a + (b - a) / 4 * 2) (a + (b - a) / 4 * 3)).2 = 12 then .decreasing else .unknown) := by
  unfold choosePivot pivR
  simp only [if_pos h, ge_iff_le]

theorem medAdj_of (d : Array Int) {n x k : Nat} (hx : 0 < x) (hx2 : x + 1 < n) : (medianAdjacent ltInt d x k).1 < n ∧ (medianAdjacent ltInt d x k).2 ≤ k + 3 := by
  have := median_of d (n := n) (x := x - 1) (y := x) (z := x + 1) (k := k) (by omega) (by omega) hx2
  exact ⟨this.1, this.2.2⟩
theorem choose_num {a0 b0 l q i j k q2 q3 : Nat} (hb : b0 ≤ 1000000) (hab : a0 + 12 < b0) (hl : b0 - a0 = l) (hq : l / 4 = q) (hi : a0 + q * 1 = i) (hj : a0 + q * 2 = j) (hk : a0 + q * 3 = k) (hq2 : q * 2 = q2) (hq3 : q * 3 = q3) :
    IntKind.i64.wrap ((b0 : Int) - (a0 : Int)) = (l : Int) ∧ IntKind.i64.wrap ((a0 : Int) + (q : Int)) = (i : Int) ∧ IntKind.i64.wrap ((a0 : Int) + (q2 : Int)) = (j : Int) ∧ IntKind.i64.wrap ((a0 : Int) + (q3 : Int)) = (k : Int) ∧
    IntKind.i64.wrap (q : Int) = (q : Int) ∧ wrap64 (q : Int) = (q : Int) ∧ IntKind.i64.wrap ((q : Int) * 2) = (q2 : Int) ∧ IntKind.i64.wrap ((q : Int) * 3) = (q3 : Int) ∧ (8 : Int) ≤ (l : Int) ∧ 8 ≤ l ∧ wrap64 ((l : Int) / 4) = (q : Int) ∧
    wrap64 ((a0 : Int) + (l : Int) / 4) = (i : Int) ∧ wrap64 ((a0 : Int) + (l : Int) / 4 * 2) = (j : Int) ∧ wrap64 ((a0 : Int) + (l : Int) / 4 * 3) = (k : Int) := by
  refine ⟨wsub (by omega) (by omega), wadd (by omega) (by omega), wadd (by omega) (by omega), wadd (by omega) (by omega), IntWalk.i64_in _ (by omega), IntWalk.wrap64_in _ (by omega), ?_, ?_, by omega, by omega, ?_, ?_, ?_, ?_⟩
  · rw [IntWalk.i64_in _ (by omega)]; omega
  · rw [IntWalk.i64_in _ (by omega)]; omega
  · rw [IntWalk.wrap64_in _ (by omega)]; omega
  · rw [IntWalk.wrap64_in _ (by omega)]; omega
  · rw [IntWalk.wrap64_in _ (by omega)]; omega
  · rw [IntWalk.wrap64_in _ (by omega)]; omega

set_option maxRecDepth 100000 in
set_option maxHeartbeats 4000000 in
theorem choose_any (b cap n a0 b0 : Nat) (d : Array Int) (w : World) (hd : d.size = n) (hn : n ≤ 1000000) (hab : a0 + 12 < b0) (hb : b0 ≤ n) (hw : RowB w b d) (hbw : b < w.heap.size) :
    Calls Tryd.prog 99 #[.slice (some ⟨b, 0, none⟩) n cap, .int .i64 a0, .int .i64 b0] w (RetP (choosePivot ltInt d a0 b0).1 (choosePivot ltInt d a0 b0).2 w) := by
  rw [choose_eq (by omega)]
  obtain ⟨l, hl⟩ : ∃ l, b0 - a0 = l := ⟨_, rfl⟩
  rw [hl]
  obtain ⟨q, hq⟩ : ∃ q, l / 4 = q := ⟨_, rfl⟩
  rw [hq]
  obtain ⟨i, hi⟩ : ∃ i, a0 + q * 1 = i := ⟨_, rfl⟩
  obtain ⟨j, hj⟩ : ∃ j, a0 + q * 2 = j := ⟨_, rfl⟩
  obtain ⟨k, hk⟩ : ∃ k, a0 + q * 3 = k := ⟨_, rfl⟩
  rw [hi, hj, hk]
  obtain ⟨q2, hq2⟩ : ∃ q2, q * 2 = q2 := ⟨_, rfl⟩
  obtain ⟨q3, hq3⟩ : ∃ q3, q * 3 = q3 := ⟨_, rfl⟩
  have x1 : 0 < i ∧ i + 1 < n := by omega
  have x2 : 0 < j ∧ j + 1 < n := by omega
  have x3 : 0 < k ∧ k + 1 < n := by omega
  obtain ⟨s, hs⟩ : ∃ s, w.heap.size = s := ⟨_, rfl⟩
  have hbs : b ≠ s := by omega
  obtain ⟨W0, hW0⟩ : ∃ W0, w.alloc (.cells #[.int .i64 0] 3) = W0 := ⟨_, rfl⟩
  have G0 := Lib.hid (show Gr w W0 by rw [← hW0]; exact (Gr.refl w).alloc _)
  have S0 := Lib.hid (show BxI W0 s ((0 : Nat) : Int) by
    rw [← hW0]
    have g := (Gr.refl (w.alloc (.cells #[.int .i64 0] 3))).fresh' (j := 0) hs rfl
    exact ⟨g.1, g.2⟩)
  have HR := Lib.hid (fun w1 (g : Wr s W0 w1) => (hw.gr G0.out).wr g hbs)
  have HE := Lib.hid (fun w1 (g : Wr s W0 w1) => show Gr w w1 from g.gr G0.out (by omega))
  have fA := Lib.hid (fun (x c : Nat) (hx : 0 < x) (hx2 : x + 1 < n) (hc : c ≤ 90) w1 (g : Wr s W0 w1) (h : BxI w1 s c) => medAdj_any b cap n s x c d w1 hbs hd hn hx hx2 hc (HR.out w1 g) h)
  have fM := Lib.hid (fun (x y z c : Nat) (hx : x < n) (hy : y < n) (hz : z < n) (hc : c ≤ 90) w1 (g : Wr s W0 w1) (h : BxI w1 s c) => median_any b cap n s x y z c d w1 hbs hd hx hy hz hc (HR.out w1 g) h)
  obtain ⟨e1, r1, r2, r3, -, m1, m2, m3, g8, g8n, e2, p1, p2, p3⟩ := choose_num (a0 := a0) (b0 := b0) (l := l) (q := q) (i := i) (j := j) (k := k) (q2 := q2) (q3 := q3) (by omega) (by omega) hl hq hi hj hk hq2 hq3
  have hws : w.heap.size = s := hs
  rw [IntWalk.i64_left] at r1 r2 r3 m2 m3
  subst hW0
  clear hl hq hi hj hk hq2 hq3 hw hd hb hab hbw
  have HH := Lib.hid (show ∀ c : Nat, (c = 0 ∧ (if c = 0 then Hint.increasing else if c = 12 then Hint.decreasing else Hint.unknown) = .increasing) ∨ (c = 12 ∧ (if c = 0 then Hint.increasing else if c = 12 then Hint.decreasing else Hint.unknown) = .decreasing) ∨ ((c ≠ 0 ∧ c ≠ 12) ∧ (if c = 0 then Hint.increasing else if c = 12 then Hint.decreasing else Hint.unknown) = .unknown) by
    intro c
    by_cases h0 : c = 0
    · exact .inl ⟨h0, if_pos h0⟩
    · by_cases h1 : c = 12
      · exact .inr (.inl ⟨h1, by rw [if_neg h0, if_pos h1]⟩)
      · exact .inr (.inr ⟨⟨h0, h1⟩, by rw [if_neg h0, if_neg h1]⟩))
  unfold pivR
  by_cases h50 : l ≥ 50
  · rw [if_pos h50]
    have g50 : (50 : Int) ≤ (l : Int) := Int.ofNat_le.2 h50
    have C1 := Lib.hid (fA.out i 0 x1.1 x1.2 (by decide) _ (Wr.refl _ _) S0.out)
    have hm1 := fun x c h h2 => medAdj_of d (n := n) (x := x) (k := c) h h2
    obtain ⟨r1, hr1⟩ : ∃ r, medianAdjacent ltInt d i 0 = r := ⟨_, rfl⟩
    have l1 := hm1 i 0 x1.1 x1.2
    rw [hr1] at C1 l1 ⊢
    obtain ⟨i1, c1⟩ := r1
    simp only [] at C1 l1 ⊢
    have C2 := Lib.hid (fun w1 g h => fA.out j c1 x2.1 x2.2 (Nat.le_trans l1.2 (by decide)) w1 g h)
    obtain ⟨r2, hr2⟩ : ∃ r, medianAdjacent ltInt d j c1 = r := ⟨_, rfl⟩
    have l2 := hm1 j c1 x2.1 x2.2
    rw [hr2] at C2 l2 ⊢
    obtain ⟨j1, c2⟩ := r2
    simp only [] at C2 l2 ⊢
    have hc2 : c2 ≤ 6 := Nat.le_trans l2.2 (Nat.add_le_add_right l1.2 3)
    have C3 := Lib.hid (fun w1 g h => fA.out k c2 x3.1 x3.2 (Nat.le_trans hc2 (by decide)) w1 g h)
    obtain ⟨r3, hr3⟩ : ∃ r, medianAdjacent ltInt d k c2 = r := ⟨_, rfl⟩
    have l3 := hm1 k c2 x3.1 x3.2
    rw [hr3] at C3 l3 ⊢
    obtain ⟨k1, c3⟩ := r3
    simp only [] at C3 l3 ⊢
    have hc3 : c3 ≤ 9 := Nat.le_trans l3.2 (Nat.add_le_add_right hc2 3)
    have C := Lib.hid (fun w1 g h => fM.out i1 j1 k1 c3 l1.1 l2.1 l3.1 (Nat.le_trans hc3 (by decide)) w1 g h)
    generalize median ltInt d i1 j1 k1 c3 = r at *
    obtain ⟨p, c⟩ := r
    simp only [] at C ⊢
    have HH' := Lib.hid (HH.out c)
    generalize (if c = 0 then Hint.increasing else if c = 12 then Hint.decreasing else Hint.unknown) = hint at *
    clear x1 x2 x3 fA fM hbs HH hm1 hr1 hr2 hr3 l1 l2 l3 hc2 hc3
    go_enter Tryd.func99, Tryd.ntmps99
    go_wp2_with fail
    with_reducible refine C1.out.mono ?_
    rintro e w1 ⟨rfl, g1, s1⟩
    have G1 := Lib.hid g1
    have S1 := Lib.hid s1
    clear g1 s1
    go_wp2_with fail
    with_reducible refine (C2.out _ G1.out S1.out).mono ?_
    rintro e w2 ⟨rfl, g2, s2⟩
    have G2 := Lib.hid (G1.out.trans g2)
    have S2 := Lib.hid s2
    clear g2 s2
    go_wp2_with fail
    with_reducible refine (C3.out _ G2.out S2.out).mono ?_
    rintro e w3 ⟨rfl, g3, s3⟩
    have G3 := Lib.hid (G2.out.trans g3)
    have S3 := Lib.hid s3
    clear g3 s3
    go_wp2_with fail
    with_reducible refine (C.out _ G3.out S3.out).mono ?_
    rintro e w4 ⟨rfl, g4, s4⟩
    have G4 := Lib.hid (HE.out _ (G3.out.trans g4))
    obtain ⟨cs, -⟩ := s4
    clear g4
    rcases HH'.out with ⟨rfl, h⟩ | ⟨rfl, h⟩ | ⟨hc, h⟩
    · have HX := Lib.hid h
      clear HH' h
      go_wp2_with fail
      refine bodyPost_ret (v := .tuple #[.int .i64 p, .int .i64 1]) (by simp [results, Tryd.results99, go_sem]) rfl ?_
      exact ⟨by rw [HX.out]; rfl, G4.out⟩
    · have HX := Lib.hid h
      clear HH' h
      go_wp2_with fail
      refine bodyPost_ret (v := .tuple #[.int .i64 p, .int .i64 2]) (by simp [results, Tryd.results99, go_sem]) rfl ?_
      exact ⟨by rw [HX.out]; rfl, G4.out⟩
    · have HX := Lib.hid h
      obtain ⟨n0, n12⟩ := hc
      have n0' : ((c : Int) == 0) = false := by simpa using n0
      have n12' : ((c : Int) == 12) = false := by simp; exact fun h => n12 (by omega)
      clear HH' h
      go_wp2_with fail
      refine bodyPost_ret (v := .tuple #[.int .i64 p, .int .i64 0]) (by simp [results, Tryd.results99, go_sem]) rfl ?_
      exact ⟨by rw [HX.out]; rfl, G4.out⟩
  · rw [if_neg h50]
    have g50 : ¬ (50 : Int) ≤ (l : Int) := fun h => h50 (Int.ofNat_le.1 h)
    have C := Lib.hid (fM.out i j k 0 (Nat.lt_of_succ_lt x1.2) (Nat.lt_of_succ_lt x2.2) (Nat.lt_of_succ_lt x3.2) (by decide) _ (Wr.refl _ _) S0.out)
    generalize median ltInt d i j k 0 = r at *
    obtain ⟨p, c⟩ := r
    simp only [] at C ⊢
    have HH' := Lib.hid (HH.out c)
    generalize (if c = 0 then Hint.increasing else if c = 12 then Hint.decreasing else Hint.unknown) = hint at *
    clear x1 x2 x3 fA fM hbs HH
    go_enter Tryd.func99, Tryd.ntmps99
    go_wp2_with fail
    with_reducible refine C.out.mono ?_
    rintro e w4 ⟨rfl, g4, s4⟩
    have G4 := Lib.hid (HE.out _ g4)
    obtain ⟨cs, -⟩ := s4
    clear g4
    rcases HH'.out with ⟨rfl, h⟩ | ⟨rfl, h⟩ | ⟨hc, h⟩
    · have HX := Lib.hid h
      clear HH' h
      go_wp2_with fail
      refine bodyPost_ret (v := .tuple #[.int .i64 p, .int .i64 1]) (by simp [results, Tryd.results99, go_sem]) rfl ?_
      exact ⟨by rw [HX.out]; rfl, G4.out⟩
    · have HX := Lib.hid h
      clear HH' h
      go_wp2_with fail
      refine bodyPost_ret (v := .tuple #[.int .i64 p, .int .i64 2]) (by simp [results, Tryd.results99, go_sem]) rfl ?_
      exact ⟨by rw [HX.out]; rfl, G4.out⟩
    · have HX := Lib.hid h
      obtain ⟨n0, n12⟩ := hc
      have n0' : ((c : Int) == 0) = false := by simpa using n0
      have n12' : ((c : Int) == 12) = false := by simp; exact fun h => n12 (by omega)
      clear HH' h
      go_wp2_with fail
      refine bodyPost_ret (v := .tuple #[.int .i64 p, .int .i64 0]) (by simp [results, Tryd.results99, go_sem]) rfl ?_
      exact ⟨by rw [HX.out]; rfl, G4.out⟩

end Go.Proofs.YtehdemcfeoiecaaDoor
