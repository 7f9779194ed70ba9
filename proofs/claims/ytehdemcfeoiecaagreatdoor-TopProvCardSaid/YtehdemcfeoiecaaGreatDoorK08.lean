import Derived.Laws.EntriesVeiled
import Derived.Test.YtehdemcfeoiecaaGreatDoorK07
set_option maxHeartbeats 64000000
set_option maxRecDepth 100000
namespace Go.Proofs.YtehdemcfeoiecaaGreatDoor.RS
open Go.RowKit Go.Firn Go.Firn.Tb
structure Rw where
 a : Option Addr
 n : Nat
 c : Nat
 y : Nat
def Row2 (w : World) (b n : Nat) (R : Nat → Nat) (c : Nat → Rw) : Prop := ∀ p, p < n → w.cell? ⟨b, p * 2, none⟩ = some (.slice (c (R p)).a (c (R p)).n (c (R p)).c) ∧ w.cell? ⟨b, p * 2 + 1, none⟩ = some (.map (some (c (R p)).y)) ∧ w.frozen? ⟨b, p * 2, none⟩ = false ∧ w.frozen? ⟨b, p * 2 + 1, none⟩ = false
theorem Row2.gr {w w' : World} {b n : Nat} {R : Nat → Nat} {c : Nat → Rw} (h : Row2 w b n R c) (k : Gr w w') : Row2 w' b n R c := fun p hp => by
 obtain ⟨h1, h2, h3, h4⟩ := h p hp
 exact ⟨k.cell h1, k.cell h2, (Below.frozen k (World.block_lt_of_cell? w _ h1)).trans h3, (Below.frozen k (World.block_lt_of_cell? w _ h2)).trans h4⟩
theorem Row2.congr {w : World} {b n : Nat} {R S : Nat → Nat} {c : Nat → Rw} (h : Row2 w b n R c) (e : R = S) : Row2 w b n S c := e ▸ h
def exW (w : World) (b i j : Nat) (x y : Rw) : World := (((w.setCell ⟨b, i * 2, none⟩ (.slice y.a y.n y.c)).setCell ⟨b, i * 2 + 1, none⟩ (.map (some y.y))).setCell ⟨b, j * 2, none⟩ (.slice x.a x.n x.c)).setCell ⟨b, j * 2 + 1, none⟩ (.map (some x.y))
theorem scrT0s_Row2exc {P : Prop} (h : P := by
  intro p hp
  unfold exW Tb.exc
  obtain ⟨h1, h2, h3, h4⟩ := h p hp
  refine ⟨?_, ?_, by simpa using h3, by simpa using h4⟩
  ·by_cases k1 : p = j
   ·subst k1
    rw [if_pos rfl]
    exact cell_by (cell_near (cell_by (cell_by h1 (by omega) _) (by omega) _) _) (by omega) _
   rw [if_neg k1]
   by_cases k2 : p = i
   ·subst k2
    rw [if_pos rfl]
    exact cell_by (cell_by (cell_by (cell_near h1 _) (by omega) _) (by omega) _) (by omega) _
   rw [if_neg k2]
   exact cell_by (cell_by (cell_by (cell_by h1 (by omega) _) (by omega) _) (by omega) _) (by omega) _
  by_cases k1 : p = j
  ·subst k1
   rw [if_pos rfl]
   exact cell_near (cell_by (cell_by (cell_by h2 (by omega) _) (by omega) _) (by omega) _) _
  rw [if_neg k1]
  by_cases k2 : p = i
  ·subst k2
   rw [if_pos rfl]
   exact cell_by (cell_by (cell_near (cell_by h2 (by omega) _) _) (by omega) _) (by omega) _
  rw [if_neg k2]
  exact cell_by (cell_by (cell_by (cell_by h2 (by omega) _) (by omega) _) (by omega) _) (by omega) _) : P := h
theorem Row2.exc {w : World} {b n : Nat} {R : Nat → Nat} {c : Nat → Rw} (h : Row2 w b n R c) {i j : Nat} (hi : i < n) (hj : j < n) (hij : i ≠ j) : Row2 (exW w b i j (c (R i)) (c (R j))) b n (Tb.exc R i j) c := by exact scrT0s_Row2exc
theorem exW_wr {w0 w : World} {b : Nat} (h : Wr b w0 w) (i j : Nat) (x y : Rw) : Wr b w0 (exW w b i j x y) := (((h.set _ _).set _ _).set _ _).set _ _
def RetSo (b n : Nat) (R : Nat → Nat) (c : Nat → Rw) (w : World) (e : Ending) (w' : World) : Prop := e = .returned (.tuple #[]) ∧ Wr b w w' ∧ Row2 w' b n R c
theorem scrT0s_swap_any {P : Prop} (h : P := by
  have HW := Lh hw
  have HB := Lh (And.intro hn (And.intro h1 h2))
  clear hw hn h1 h2
  first | (have z := zS; clear z; go_enter Tryz.func261, Tryz.ntmps261) | (go_enter Tryz.func255, Tryz.ntmps255)
  go_wp2_with fail
  go_loopw [10] (fun s wr => ∃ i : Nat, s = .int .i64 i ∧ Hid (i ≤ k) ∧ Hid (Wr b w wr) ∧ Hid (Row2 wr b n (swr R a m i) c)) (fun s _ => k - (intOf s).toNat)
  case atStart => exact ⟨0, rfl, Lh (Nat.zero_le _), Lh (Wr.refl _ _), Lh (by rw [swr_zero]; exact HW.out)⟩
  case round =>
   obtain ⟨i, rfl, Hi, HWr, HR⟩ := hrel
   by_cases hlt : i < k
   ·have i1 : (i : Int) < (k : Int) := by omega
    have e1 : IntKind.i64.wrap ((a : Int) + (i : Int)) = ((a + i : Nat) : Int) := by rw [IntWalk.i64_in _ (by have := HB.out; omega)]; omega
    have e2 : IntKind.i64.wrap ((m : Int) + (i : Int)) = ((m + i : Nat) : Int) := by rw [IntWalk.i64_in _ (by have := HB.out; omega)]; omega
    have q1 : ((a + i : Nat) : Int) < (n : Int) := by have := HB.out; omega
    have q2 : ((m + i : Nat) : Int) < (n : Int) := by have := HB.out; omega
    obtain ⟨a1, a2, a3, a4⟩ := HR.out (a + i) (by have := HB.out; omega)
    obtain ⟨b1, b2, b3, b4⟩ := HR.out (m + i) (by have := HB.out; omega)
    have HX := Lh (HR.out.exc (i := a + i) (j := m + i) (by have := HB.out; omega) (by have := HB.out; omega) (by have := HB.out; omega))
    rw [swr_succ R (by have := HB.out; omega)] at HX
    have HY := Lh (fun wq (h : Wr b w wq) => exW_wr h (a + i) (m + i) (c (swr R a m i (a + i))) (c (swr R a m i (m + i))))
    have HL := Lh hlt
    first | (have z := zS; clear z; have b1' := cell_by (k := (a + i) * 2 + 1) (cell_by (k := (a + i) * 2) b1 (by have := HB.out; omega) (.slice (c (swr R a m i (m + i))).a (c (swr R a m i (m + i))).n (c (swr R a m i (m + i))).c)) (by have := HB.out; omega) (.map (some (c (swr R a m i (m + i))).y))) | (have b1' := cell_by (k := (a + i) * 2 + 1) (cell_by (k := (a + i) * 2) b1 (by have := HB.out; omega) (.slice (c (swr R a m i (m + i))).a (c (swr R a m i (m + i))).n (c (swr R a m i (m + i))).c)) (by have := HB.out; omega) (.int .i64 (c (swr R a m i (m + i))).y))
    first | (have z := zS; clear z; have b2' := cell_by (k := (a + i) * 2 + 1) (cell_by (k := (a + i) * 2) b2 (by have := HB.out; omega) (.slice (c (swr R a m i (m + i))).a (c (swr R a m i (m + i))).n (c (swr R a m i (m + i))).c)) (by have := HB.out; omega) (.map (some (c (swr R a m i (m + i))).y))) | (have b2' := cell_by (k := (a + i) * 2 + 1) (cell_by (k := (a + i) * 2) b2 (by have := HB.out; omega) (.slice (c (swr R a m i (m + i))).a (c (swr R a m i (m + i))).n (c (swr R a m i (m + i))).c)) (by have := HB.out; omega) (.int .i64 (c (swr R a m i (m + i))).y))
    have a2' := cell_by (k := (a + i) * 2) a2 (by omega) (.slice (c (swr R a m i (m + i))).a (c (swr R a m i (m + i))).n (c (swr R a m i (m + i))).c)
    have b2'' := cell_by (k := (m + i) * 2) b2' (by omega) (.slice (c (swr R a m i (a + i))).a (c (swr R a m i (a + i))).n (c (swr R a m i (a + i))).c)
    unfold exW at HX HY
    generalize c (swr R a m i (a + i)) = x at *
    generalize c (swr R a m i (m + i)) = y at *
    obtain ⟨xa, xn, xc, xy⟩ := x
    obtain ⟨ya, yn, yc, yy⟩ := y
    clear hlt
    simp only at a1 a2 a2' b1 b2 b1' b2' b2'' HX HY
    generalize hP : a + i = P at *
    generalize hQ : m + i = Q at *
    have HPQ := Lh (And.intro hP hQ)
    clear hP hQ
    go_wp2_with fail
    go_region
    all_goals go_wp2
    clear e1 e2 q1 q2
    have hb0 := HB.out
    have hl0 := HL.out
    have hp0 := HPQ.out
    have e3 : wrap64 ((i : Int) + 1) = ((i + 1 : Nat) : Int) := by rw [IntWalk.wrap64_in _ (by omega)]; omega
    go_roundw
    case rel => exact ⟨i + 1, by rw [e3], Lh (by omega), Lh (HY.out _ HWr.out).drew, HX⟩
    case measure => rw [e3]; simp only [intOf]; omega
   have i1 : ¬ (i : Int) < (k : Int) := by omega
   obtain rfl : i = k := by have := Hi.out; omega
   go_wp2_with fail
   go_end0
   exact ⟨rfl, HWr.out, HR.out⟩) : P := h
theorem swap_any (b cap n a m k : Nat) (R : Nat → Nat) (c : Nat → Rw) (w : World) (F : Value) (hn : n ≤ 1000) (h1 : a + k ≤ m) (h2 : m + k ≤ n) (hw : Row2 w b n R c) :
  Calls Tryz.prog 261 #[.slice (some ⟨b, 0, none⟩) n cap, .int .i64 a, .int .i64 m, .int .i64 k, F] w (RetSo b n (swr R a m k) c w) := by have zS := trivial; exact scrT0s_swap_any
theorem scrT1s_rotate_any {P : Prop} (h : P := by
  have HW := Lh hw
  have HB := Lh (And.intro hn (And.intro h1 (And.intro h2 h3)))
  have C := Lh (fun (a' m' k' : Nat) (R' : Nat → Nat) w' (h1 : a' + k' ≤ m') (h2 : m' + k' ≤ n) (hw : Row2 w' b n R' c) => swap_any b cap n a' m' k' R' c w' F hn h1 h2 hw)
  have e1 : IntKind.i64.wrap ((m : Int) - (a : Int)) = ((m - a : Nat) : Int) := by rw [IntWalk.i64_in _ (by omega)]; omega
  have e2 : IntKind.i64.wrap ((e : Int) - (m : Int)) = ((e - m : Nat) : Int) := by rw [IntWalk.i64_in _ (by omega)]; omega
  clear hw hn h1 h2 h3
  first | (have z := zS; clear z; go_enter Tryz.func256, Tryz.ntmps256) | (go_enter Tryz.func235, Tryz.ntmps235)
  go_wp2_with fail
  go_loopw [10, 11] (fun s t wr => ∃ (i j : Nat) (S : Nat → Nat), s = .int .i64 i ∧ t = .int .i64 j ∧ Hid (1 ≤ i ∧ 1 ≤ j ∧ i ≤ m - a ∧ j ≤ e - m) ∧ Hid (Wr b w wr) ∧ Hid (Row2 wr b n S c) ∧ Hid (rot S (m - i) m (m + j) = rot R a m e)) (fun s t _ => (intOf s).toNat + (intOf t).toNat)
  case atStart => exact ⟨m - a, e - m, R, rfl, rfl, Lh (by have := HB.out; omega), Lh (Wr.refl _ _), HW, Lh (by have := HB.out; rw [show m - (m - a) = a by omega, show m + (e - m) = e by omega])⟩
  case round =>
   clear e1 e2
   obtain ⟨i, j, S, rfl, rfl, Hij, HWr, HR, HE⟩ := hrel
   have hb := HB.out
   have hi := Hij.out
   by_cases hne : i = j
   ·subst hne
    have e3 : IntKind.i64.wrap ((m : Int) - (i : Int)) = ((m - i : Nat) : Int) := by rw [IntWalk.i64_in _ (by omega)]; omega
    have C1 := Lh (C.out (m - i) m i S wr (by omega) (by omega) HR.out)
    rw [rot_same S (by omega), HE.out] at C1
    clear hb hi
    go_wp2_with ((first | go_at_call 255 | go_at_call 261); (with_reducible refine C1.out.mono ?_); rintro e w1 ⟨rfl, g1, r1⟩; have G1 := Lh g1; have R1 := Lh r1; clear g1 r1)
    go_end0
    exact ⟨rfl, HWr.out.trans G1.out, R1.out⟩
   have n1 : ¬ (i : Int) = (j : Int) := by omega
   rcases Nat.lt_or_ge j i with hlt | hge
   ·have n2 : (j : Int) < (i : Int) := by omega
    have e3 : IntKind.i64.wrap ((m : Int) - (i : Int)) = ((m - i : Nat) : Int) := by rw [IntWalk.i64_in _ (by omega)]; omega
    have e4 : IntKind.i64.wrap ((i : Int) - (j : Int)) = ((i - j : Nat) : Int) := by rw [IntWalk.i64_in _ (by omega)]; omega
    have C1 := Lh (C.out (m - i) m j S wr (by omega) (by omega) HR.out)
    have HE2 := Lh (rot_more S (m := m) (i := i) (j := j) (by omega) (by omega) hlt)
    clear hb hi hlt hne
    go_wp2_with ((first | go_at_call 255 | go_at_call 261); (with_reducible refine C1.out.mono ?_); rintro e w1 ⟨rfl, g1, r1⟩; have G1 := Lh g1; have R1 := Lh r1; clear g1 r1)
    have hb := HB.out
    have hi := Hij.out
    clear e3
    go_roundw
    case rel => exact ⟨i - j, j, _, rfl, rfl, Lh (by omega), Lh (HWr.out.trans G1.out), R1, Lh (by rw [HE2.out, HE.out])⟩
    case measure => simp only [intOf]; omega
   have n2 : ¬ (j : Int) < (i : Int) := by omega
   have hlt : i < j := by omega
   have e3 : IntKind.i64.wrap ((m : Int) - (i : Int)) = ((m - i : Nat) : Int) := by rw [IntWalk.i64_in _ (by omega)]; omega
   obtain ⟨mj, hmj⟩ : ∃ mj, mj = m + j - i := ⟨_, rfl⟩
   have e6 : IntKind.i64.wrap ((m : Int) + (j : Int)) = (m : Int) + (j : Int) := IntWalk.i64_in _ (by omega)
   have e7 : IntKind.i64.wrap ((m : Int) + (j : Int) - (i : Int)) = (mj : Int) := by rw [IntWalk.i64_in _ (by omega)]; omega
   have e4 : IntKind.i64.wrap ((j : Int) - (i : Int)) = ((j - i : Nat) : Int) := by rw [IntWalk.i64_in _ (by omega)]; omega
   have C1 := Lh (C.out (m - i) (m + j - i) i S wr (by omega) (by omega) HR.out)
   rw [← hmj] at C1
   have HE2 := Lh (rot_less S (m := m) (i := i) (j := j) (by omega) (by omega) hlt)
   rw [← hmj] at HE2
   clear hb hi hlt hne hge hmj
   go_wp2_with ((first | go_at_call 255 | go_at_call 261); (with_reducible refine C1.out.mono ?_); rintro e w1 ⟨rfl, g1, r1⟩; have G1 := Lh g1; have R1 := Lh r1; clear g1 r1)
   have hb := HB.out
   have hi := Hij.out
   clear e3 e6 e7
   go_roundw
   case rel => exact ⟨i, j - i, _, rfl, rfl, Lh (by omega), Lh (HWr.out.trans G1.out), R1, Lh (by rw [HE2.out, HE.out])⟩
   case measure => simp only [intOf]; omega) : P := h
theorem rotate_any (b cap n a m e : Nat) (R : Nat → Nat) (c : Nat → Rw) (w : World) (F : Value) (hn : n ≤ 1000) (h1 : a < m) (h2 : m < e) (h3 : e ≤ n) (hw : Row2 w b n R c) :
  Calls Tryz.prog 256 #[.slice (some ⟨b, 0, none⟩) n cap, .int .i64 a, .int .i64 m, .int .i64 e, F] w (RetSo b n (rot R a m e) c w) := by have zS := trivial; exact scrT1s_rotate_any
def CmpOk (w : World) (b n : Nat) (c : Nat → Rw) (K : Nat → List Int) : Prop := ∀ w', Wr b w w' → ∀ i j, i < n → j < n → Calls Tryz.prog 173 #[.agg #[.slice (c i).a (c i).n (c i).c, .map (some (c i).y)], .agg #[.slice (c j).a (c j).n (c j).c, .map (some (c j).y)]] w' fun e w'' => e = .returned (.int .i64 (cmpI (K i) (K j))) ∧ Gr w' w''
theorem CmpOk.wr {w w1 : World} {b n : Nat} {c : Nat → Rw} {K : Nat → List Int} (h : CmpOk w b n c K) (k : Wr b w w1) : CmpOk w1 b n c K := fun w' g => h w' (k.trans g)
theorem cfC (args : Array Value) (wz : World) : (callFunc 173 args).run Tryz.prog wz = .ok (.enter 173 args) wz := by kernel_rfl
def RetSr (b n : Nat) (c : Nat → Rw) (T : (Nat → Nat) → Prop) (w : World) (e : Ending) (w' : World) : Prop := e = .returned (.tuple #[]) ∧ ∃ R, Wr b w w' ∧ Row2 w' b n R c ∧ T R
theorem scrT2s_ins_any {P : Prop} (h : P := by
  have HW := Lh hw
  have HC0 := Lh hC
  have HB := Lh (And.intro hn (And.intro hae he))
  have HI := Lh hid
  have hcf := cfC
  have e1 : IntKind.i64.wrap ((a : Int) + 1) = ((a + 1 : Nat) : Int) := by rw [IntWalk.i64_in _ (by omega)]; omega
  clear hw hn hae he hid hC
  first | (have z := zS; clear z; go_enter Tryz.func236, Tryz.ntmps236) | (go_enter Tryz.func201, Tryz.ntmps201)
  go_wp2_with fail
  go_loopw [8] (fun s wr => ∃ (k : Nat) (R1 : Nat → Nat), s = .int .i64 k ∧ Hid (a + 1 ≤ k ∧ (k ≤ e ∨ k = a + 1)) ∧ Hid (Wr b w wr) ∧ Hid (Row2 wr b n R1 c) ∧ Hid (Srt' K R1 a k) ∧ Hid (Prm a e R R1) ∧ Hid (∀ p, a ≤ p → p < k → p < n → R1 p < k) ∧ Hid (∀ p, k ≤ p → p < n → R1 p = p)) (fun s _ => e - (intOf s).toNat)
  case atStart => exact ⟨a + 1, R, rfl, Lh ⟨Nat.le_refl _, .inr rfl⟩, Lh (Wr.refl _ _), HW, Lh (fun p q h1 h2 h3 => by omega), Lh (Prm.refl _ _ _), Lh (fun p h1 h2 h3 => by rw [HI.out p h1 h3]; exact h2), Lh (fun p h1 h2 => HI.out p (by omega) h2)⟩
  case round =>
   clear e1 HW
   obtain ⟨k, R1, rfl, Hk, HW1, HR1, HS1, HP1, HD1, HF1⟩ := hrel
   by_cases hlk : k < e
   ·have hlki : (k : Int) < (e : Int) := by omega
    have HL := Lh hlk
    clear hlk
    go_wp2_with fail
    go_loopw [9] (fun s wr' => ∃ (J : Nat) (R2 : Nat → Nat), s = .int .i64 J ∧ Hid (Wr b w wr') ∧ Hid (Row2 wr' b n R2 c) ∧ Hid (InsS K R2 a k J) ∧ Hid (Prm a e R R2) ∧ Hid (∀ p, k < p → p < n → R2 p = p)) (fun s _ => (intOf s).toNat)
    case atStart =>
     have hb := HB.out
     have hk := Hk.out
     have hl := HL.out
     refine ⟨k, R1, rfl, HW1, HR1, Lh ⟨by omega, HF1.out k (Nat.le_refl _) (by omega), fun p q h1 h2 h3 _ h5 => HS1.out p q h1 h2 (by omega), fun q h1 h2 => by omega, fun p h1 h2 h3 => HD1.out p h1 (by omega) (by omega)⟩, HP1, Lh (fun p h1 h2 => HF1.out p (by omega) h2)⟩
    case round =>
     clear HW1 HR1 HS1 HP1 HD1 HF1
     obtain ⟨J, R2, rfl, HW2, HR2, HI2, HP2, HF2⟩ := hrel
     have HB1 := Lh (show a ≤ J ∧ J ≤ k ∧ k < e ∧ e ≤ n ∧ n ≤ 1000 ∧ a + 1 ≤ k from by have := HI2.out.lo; have := HB.out; have := HL.out; have := Hk.out; omega)
     by_cases hJ : J = a
     ·subst hJ
      have q0 : ¬ (J : Int) < (J : Int) := by omega
      have q0d : decide ((J : Int) < (J : Int)) = false := decide_eq_false q0
      have HS3 := Lh (HI2.out.stop (.inl rfl))
      go_wp2_with fail
      go_quiet (fail)
      go_wp2_with fail
      have hb := HB1.out
      have e3 : wrap64 ((k : Int) + 1) = ((k + 1 : Nat) : Int) := by rw [IntWalk.wrap64_in _ (by omega)]; omega
      go_roundw
      case rel => exact ⟨k + 1, R2, by rw [e3], Lh (by omega), Lh (HW2.out.drewN _), HR2, HS3, HP2, Lh (fun p h1 h2 h3 => by
       by_cases hp : p = J
       ·subst hp; rw [HI2.out.here]; omega
       have := HI2.out.ids p h1 (by omega) hp; omega), Lh (fun p h1 h2 => HF2.out p (by omega) h2)⟩
      case measure => rw [e3]; simp only [intOf]; omega
     obtain ⟨jp, hjp⟩ : ∃ jp, J = jp + 1 := ⟨J - 1, by have := HB1.out; omega⟩
     have HJ := Lh (show J = jp + 1 ∧ a ≤ jp from ⟨hjp, by have := HB1.out; omega⟩)
     have hb := HB1.out
     have q1 : (a : Int) < (J : Int) := by omega
     have q1n : a < J := by omega
     have q2 : IntKind.i64.wrap ((J : Int) - 1) = (jp : Int) := by rw [show (J : Int) - 1 = jp by omega]; exact IntWalk.i64_in _ (by omega)
     have q3 : (J : Int) < (n : Int) := by omega
     have q4 : (jp : Int) < (n : Int) := by omega
     obtain ⟨a1, a2, _, _⟩ := HR2.out J (by omega)
     obtain ⟨b1, b2, _, _⟩ := HR2.out jp (by omega)
     have bnd : ∀ p, a ≤ p → p ≤ k → R2 p < n := fun p h1 h2 => by
      by_cases hp : p = J
      ·subst hp; rw [HI2.out.here]; omega
      have := HI2.out.ids p h1 h2 hp; omega
     have HC := Lh (fun w' (g : Gr wr w') => HC0.out w' (HW2.out.trans (Wr.of_gr g)) (R2 J) (R2 jp) (bnd J (by omega) (by omega)) (bnd jp (by omega) (by omega)))
     have HE := Lh (cmpI_neg (x := K (R2 J)) (y := K (R2 jp)))
     have HX := Lh (fun W (g : Row2 W b n R2 c) => g.exc (i := J) (j := jp) (by omega) (by omega) (by omega))
     have HY := Lh (fun wq (h : Wr b w wq) => exW_wr h J jp (c (R2 J)) (c (R2 jp)))
     have HRg := Lh (fun W (g : Gr wr W) => And.intro ((HR2.out.gr g) J (by omega)) ((HR2.out.gr g) jp (by omega)))
     have HI3 := Lh (show K (R2 J) < K (R2 jp) → InsS K (exc R2 J jp) a k jp from fun h => by subst hjp; exact HI2.out.next (by omega) h)
     have HS3 := Lh (show ¬ K (R2 J) < K (R2 jp) → Srt' K R2 a (k + 1) from fun h => HI2.out.stop (.inr ⟨jp, hjp, by omega, by subst hjp; exact h⟩))
     have HP3 := Lh (HP2.out.trans (Prm.exc R2 (a := a) (b := e) (i := J) (j := jp) (by omega) (by omega)))
     have HF3 := Lh (show ∀ p, k < p → p < n → exc R2 J jp p = p from fun p h1 h2 => by
      have := HF2.out p h1 h2
      unfold exc
      rw [if_neg (by omega), if_neg (by omega)]; exact this)
     have HD3 := Lh (show ∀ p, a ≤ p → p < k + 1 → p < n → R2 p < k + 1 from fun p h1 h2 h3 => by
      by_cases hp : p = J
      ·subst hp; rw [HI2.out.here]; omega
      have := HI2.out.ids p h1 (by omega) hp; omega)
     clear hjp hJ bnd hb
     unfold exW at HX HY
     generalize c (R2 J) = x at *
     generalize c (R2 jp) = y at *
     generalize K (R2 J) = kx at *
     generalize K (R2 jp) = ky at *
     obtain ⟨xa, xn, xc, xy⟩ := x
     obtain ⟨ya, yn, yc, yy⟩ := y
     simp only at a1 a2 b1 b2 HX HY HC HRg
     go_wp2_with fail
     refine Hg (fun w' => Gr wr w') 17 ?_
     have hS : Gr wr wr.drew := (Gr.refl wr).drew
     refine H12 0 1 2 3 4 5 6 7 8 9 10 11 (c4 a1 a2 b1 b2) hS ?_; refine H2 12 13 (c4 a1 a2 b1 b2) hS ?_
     refine Hr 14 rfl (fun K hK => ?_)
     go_simp
     refine ⟨trivial, ?_⟩
     refine (callsIn_wide.2 (HC.out _ hS)).mono ?_
     rintro e wX ⟨rfl, gX⟩
     have hS : Gr wr wX := hS.trans gX
     refine hK.out _ _ hS ?_
     clear hK K gX
     refine H2 15 16 tv hS ?_
     refine Hd ?_
     clear HC
     have HW3 := Lh (HW2.out.trans (Wr.of_gr hS))
     obtain ⟨⟨a1', a2', a3, a4⟩, b1', b2', b3, b4⟩ := HRg.out _ hS
     replace a1 := a1'
     replace a2 := a2'
     replace b1 := b1'
     replace b2 := b2'
     clear a1' a2' b1' b2'
     have HR3 := Lh (HR2.out.gr hS)
     replace HX := Lh (HX.out _ HR3.out)
     clear hS HRg HR2 HW2
     by_cases hl : kx < ky
     ·have hz : cmpI kx ky < 0 := HE.out.2 hl
      have HI4 := Lh (HI3.out hl)
      have hb := HB1.out
      have hj := HJ.out
      first | (have z := zS; clear z; have b1' := cell_by (k := J * 2 + 1) (cell_by (k := J * 2) b1 (by omega) (.slice ya yn yc)) (by omega) (.map (some yy))) | (have b1' := cell_by (k := J * 2 + 1) (cell_by (k := J * 2) b1 (by omega) (.slice ya yn yc)) (by omega) (.int .i64 yy))
      first | (have z := zS; clear z; have b2' := cell_by (k := J * 2 + 1) (cell_by (k := J * 2) b2 (by omega) (.slice ya yn yc)) (by omega) (.map (some yy))) | (have b2' := cell_by (k := J * 2 + 1) (cell_by (k := J * 2) b2 (by omega) (.slice ya yn yc)) (by omega) (.int .i64 yy))
      have a2' := cell_by (k := J * 2) a2 (by omega) (.slice ya yn yc)
      have b2'' := cell_by (k := jp * 2) b2' (by omega) (.slice xa xn xc)
      clear HI3 HS3 HE hl hb hj
      go_wp2_with fail
      go_region
      all_goals go_wp2
      have hb := HB1.out
      have hj := HJ.out
      go_roundw
      case rel => exact ⟨jp, exc R2 J jp, by first | rfl | (rw [q2]), Lh (HY.out _ HW3.out).drew, HX, HI4, HP3, HF3⟩
      case measure => simp only [intOf]; omega
     have hz : ¬ cmpI kx ky < 0 := fun h => hl (HE.out.1 h)
     have HS4 := Lh (HS3.out hl)
     clear HI3 HS3 HE hl
     go_wp2_with fail
     have hb := HB1.out
     have e3 : wrap64 ((k : Int) + 1) = ((k + 1 : Nat) : Int) := by rw [IntWalk.wrap64_in _ (by omega)]; omega
     go_roundw
     case rel => exact ⟨k + 1, R2, by rw [e3], Lh (by omega), HW3, HR3, HS4, HP2, HD3, Lh (fun p h1 h2 => HF2.out p (by omega) h2)⟩
     case measure => rw [e3]; simp only [intOf]; omega
   have hlki : ¬ (k : Int) < (e : Int) := by omega
   go_wp2_with fail
   go_end0
   refine ⟨rfl, R1, HW1.out, HR1.out, fun p q h1 h2 h3 => HS1.out p q h1 h2 (by omega), HP1.out⟩) : P := h
theorem ins_any (b cap n a e : Nat) (R : Nat → Nat) (c : Nat → Rw) (K : Nat → List Int) (w : World) (hn : n ≤ 1000) (hae : a ≤ e) (he : e ≤ n) (hid : ∀ p, a ≤ p → p < n → R p = p) (hw : Row2 w b n R c) (hC : CmpOk w b n c K) :
  Calls Tryz.prog 236 #[.slice (some ⟨b, 0, none⟩) n cap, .int .i64 a, .int .i64 e, .func (.func 173) #[] #[]] w (RetSr b n c (fun R' => Srt' K R' a e ∧ Prm a e R R') w) := by have zS := trivial; exact scrT2s_ins_any
theorem half_wrap {i j : Nat} (h : i + j ≤ 100000) : IntKind.i64.wrap ((i : Int) + (j : Int)) = (i : Int) + (j : Int) ∧ IntKind.u64.wrap ((i : Int) + (j : Int)) = (i : Int) + (j : Int) ∧ ((i : Int) + (j : Int)) / 2 = (((i + j) / 2 : Nat) : Int) ∧ IntKind.i64.wrap ((((i + j) / 2 : Nat) : Int)) = (((i + j) / 2 : Nat) : Int) := by
 refine ⟨IntWalk.i64_in _ (by omega), by rw [IntKind.wrap_u64]; omega, by omega, IntWalk.i64_in _ (by omega)⟩
theorem scrT3s_symA_any {P : Prop} (h : P := by
  have HW := Lh hw
  have HC0 := Lh hC
  have HB := Lh (And.intro hn (And.intro hm (And.intro hme he)))
  have HS2 := Lh hS2
  have HL := Lh hL
  have HRn := Lh hR
  have hcf := cfC
  have e1 : IntKind.i64.wrap ((m : Int) - (a : Int)) = 1 := by rw [IntWalk.i64_in _ (by omega)]; omega
  clear hw hn hm hme he hC hS2 hL hR
  first | (have z := zS; clear z; go_enter Tryz.func237, Tryz.ntmps237) | (go_enter Tryz.func202, Tryz.ntmps202)
  go_wp2_with fail
  go_loopw [10, 11] (fun s t wr => ∃ (i j : Nat), s = .int .i64 i ∧ t = .int .i64 j ∧ Hid (m ≤ i ∧ i ≤ j ∧ j ≤ e) ∧ Hid (Gr w wr) ∧ Hid (∀ p, m ≤ p → p < i → K (R p) < K (R a)) ∧ Hid (∀ p, j ≤ p → p < e → ¬ K (R p) < K (R a))) (fun s t _ => (intOf t).toNat - (intOf s).toNat)
  case atStart => exact ⟨m, e, rfl, rfl, Lh (by have := HB.out; omega), Lh (Gr.refl w), Lh (fun p h1 h2 => by omega), Lh (fun p h1 h2 => by omega)⟩
  case round =>
   obtain ⟨i, j, rfl, rfl, Hij, HG, HLo, HHi⟩ := hrel
   by_cases hlt : i < j
   ·have i1 : (i : Int) < (j : Int) := by omega
    have hb := HB.out
    have hi := Hij.out
    obtain ⟨s1, s2, s3, s4⟩ := half_wrap (i := i) (j := j) (by omega)
    obtain ⟨h, hh⟩ : ∃ h, h = (i + j) / 2 := ⟨_, rfl⟩
    rw [← hh] at s3 s4
    have HH := Lh (show i ≤ h ∧ h < j from by omega)
    have q1 : (h : Int) < (n : Int) := by omega
    have q2 : (a : Int) < (n : Int) := by omega
    have HRw := Lh (HW.out.gr HG.out)
    obtain ⟨a1, a2, _, _⟩ := HRw.out h (by omega)
    obtain ⟨b1, b2, _, _⟩ := HRw.out a (by omega)
    have HC := Lh (fun w' (g : Gr wr w') => HC0.out w' (Wr.of_gr (HG.out.trans g)) (R h) (R a) (HRn.out _ (by omega)) (HRn.out _ (by omega)))
    have HE := Lh (cmpI_neg (x := K (R h)) (y := K (R a)))
    have HYes := Lh (show K (R h) < K (R a) → ∀ p, m ≤ p → p < h + 1 → K (R p) < K (R a) from fun hl p h1 h2 => by
     by_cases hp : p = h
     ·subst hp; exact hl
     rcases HS2.out p h h1 (by omega) (by omega) with k | ⟨k, _⟩
     ·exact List.lt_trans k hl
     rw [k]; exact hl)
    have HNo := Lh (show ¬ K (R h) < K (R a) → ∀ p, h ≤ p → p < e → ¬ K (R p) < K (R a) from fun hl p h1 h2 hk => hl (by
     by_cases hp : p = h
     ·subst hp; exact hk
     rcases HS2.out h p (by omega) (by omega) h2 with k | ⟨k, _⟩
     ·exact List.lt_trans k hk
     rw [k]; exact hk))
    clear hh hb hi hlt
    generalize c (R h) = x at *
    generalize c (R a) = y at *
    generalize K (R h) = kx at *
    generalize hky : K (R a) = ky at *
    have HKy := Lh hky
    clear hky
    obtain ⟨xa, xn, xc, xy⟩ := x
    obtain ⟨ya, yn, yc, yy⟩ := y
    simp only at a1 a2 b1 b2 HC
    go_wp2_with fail
    refine Hg (fun w' => Gr wr w') 11 ?_
    have hS : Gr wr wr.drew := (Gr.refl wr).drew
    refine H5 0 1 2 3 4 (c4 a1 a2 b1 b2) hS ?_; refine H4 5 6 7 8 (c4 a1 a2 b1 b2) hS ?_
    refine Hr 9 rfl (fun K hK => ?_)
    go_simp
    refine ⟨trivial, ?_⟩
    refine (callsIn_wide.2 (HC.out _ hS)).mono ?_
    rintro e wX ⟨rfl, gX⟩
    have hS : Gr wr wX := hS.trans gX
    refine hK.out _ _ hS ?_
    clear hK K gX
    refine H1 10 tv hS ?_
    refine Hd ?_
    clear HC a1 a2 b1 b2
    have HG2 := Lh (HG.out.trans hS)
    clear hS s1 s2 s3 s4
    have hb := HB.out
    have hi := Hij.out
    have hh := HH.out
    by_cases hl : kx < ky
    ·have hz : cmpI kx ky < 0 := HE.out.2 hl
     have HLo2 := Lh (HYes.out hl)
     clear HYes HNo HE hl
     have e3 : wrap64 ((h : Int) + 1) = ((h + 1 : Nat) : Int) := by rw [IntWalk.wrap64_in _ (by omega)]; omega
     go_wp2_with fail
     go_roundw
     case rel => exact ⟨h + 1, j, by first | (rw [e3]) | rfl | simp, rfl, Lh (by omega), HG2, HLo2, HHi⟩
     case measure => first | (rw [e3]; simp only [intOf]; omega) | (simp only [intOf]; omega)
    have hz : ¬ cmpI kx ky < 0 := fun h => hl (HE.out.1 h)
    have HHi2 := Lh (HNo.out hl)
    clear HYes HNo HE hl
    go_wp2_with fail
    go_roundw
    case rel => exact ⟨i, h, rfl, rfl, Lh (by omega), HG2, HLo, HHi2⟩
    case measure => simp only [intOf]; omega
   have hb := HB.out
   have hi := Hij.out
   obtain rfl : i = j := by omega
   have i1 : ¬ (i : Int) < (i : Int) := by omega
   have HSr := Lh (shU_srt (K := K) (i := i) hb.2.1 (by omega) (by omega) HS2.out HL.out HLo.out HHi.out)
   have HPr := Lh (fun q h1 h2 => shU_prm R (a := a) (e := e) (q := q) h1 h2)
   have HRw := Lh (HW.out.gr HG.out)
   obtain ⟨ip, hip⟩ : ∃ ip, ip = i - 1 := ⟨_, rfl⟩
   rw [← hip] at HSr
   have HIp := Lh (show a ≤ ip ∧ ip < e ∧ ip + 1 = i ∧ e ≤ n ∧ n ≤ 1000 from by omega)
   have s5 : IntKind.i64.wrap ((i : Int) - 1) = (ip : Int) := by rw [IntWalk.i64_in _ (by omega)]; omega
   clear hb hi hip HLo HHi e1
   go_wp2_with fail
   go_loopw [13] (fun s wr' => ∃ q : Nat, s = .int .i64 q ∧ Hid (a ≤ q ∧ q ≤ ip) ∧ Hid (Wr b w wr') ∧ Hid (Row2 wr' b n (shU R a q) c)) (fun s _ => ip - (intOf s).toNat)
   case atStart => exact ⟨a, rfl, Lh (by have := HIp.out; omega), Lh (Wr.of_gr HG.out), Lh (by rw [shU_zero]; exact HRw.out)⟩
   case round =>
    clear HRw HG
    obtain ⟨q, rfl, Hq, HWr, HR⟩ := hrel
    by_cases hlt : q < ip
    ·have i2 : (q : Int) < (ip : Int) := by omega
     have hb := HIp.out
     have hq := Hq.out
     have e3 : IntKind.i64.wrap ((q : Int) + 1) = ((q + 1 : Nat) : Int) := by rw [IntWalk.i64_in _ (by omega)]; omega
     obtain ⟨Q, hQ⟩ : ∃ Q, Q = q + 1 := ⟨_, rfl⟩
     rw [← hQ] at e3
     have q1 : (q : Int) < (n : Int) := by omega
     have q2 : (Q : Int) < (n : Int) := by omega
     obtain ⟨a1, a2, a3, a4⟩ := HR.out q (by omega)
     obtain ⟨b1, b2, b3, b4⟩ := HR.out Q (by omega)
     have HX := Lh (HR.out.exc (i := q) (j := Q) (by omega) (by omega) (by omega))
     have e4 : exc (shU R a q) q Q = shU R a Q := by rw [hQ]; exact shU_next R hq.1
     rw [e4] at HX
     have HY := Lh (fun wq (h : Wr b w wq) => exW_wr h q Q (c (shU R a q q)) (c (shU R a q Q)))
     unfold exW at HX HY
     generalize c (shU R a q q) = x at *
     generalize c (shU R a q Q) = y at *
     obtain ⟨xa, xn, xc, xy⟩ := x
     obtain ⟨ya, yn, yc, yy⟩ := y
     simp only at a1 a2 b1 b2 HX HY
     first | (have z := zS; clear z; have b1' := cell_by (k := q * 2 + 1) (cell_by (k := q * 2) b1 (by omega) (.slice ya yn yc)) (by omega) (.map (some yy))) | (have b1' := cell_by (k := q * 2 + 1) (cell_by (k := q * 2) b1 (by omega) (.slice ya yn yc)) (by omega) (.int .i64 yy))
     first | (have z := zS; clear z; have b2' := cell_by (k := q * 2 + 1) (cell_by (k := q * 2) b2 (by omega) (.slice ya yn yc)) (by omega) (.map (some yy))) | (have b2' := cell_by (k := q * 2 + 1) (cell_by (k := q * 2) b2 (by omega) (.slice ya yn yc)) (by omega) (.int .i64 yy))
     have a2' := cell_by (k := q * 2) a2 (by omega) (.slice ya yn yc)
     have b2'' := cell_by (k := Q * 2) b2' (by omega) (.slice xa xn xc)
     have HQ := Lh (show Q = q + 1 ∧ q < ip from ⟨hQ, hlt⟩)
     clear hQ hlt hb hq e4
     go_wp2_with fail
     go_region
     all_goals go_wp2
     have hb := HIp.out
     have hq := Hq.out
     have hQ := HQ.out
     go_roundw
     case rel => exact ⟨Q, by first | rfl | (rw [e3]) | (rw [hQ.1]; simp), Lh (by omega), Lh (HY.out _ HWr.out).drew, HX⟩
     case measure => first | (simp only [intOf]; omega) | (rw [e3]; simp only [intOf]; omega)
    have i2 : ¬ (q : Int) < (ip : Int) := by omega
    obtain rfl : q = ip := by have := Hq.out; omega
    go_wp2_with fail
    go_end0
    exact ⟨rfl, _, HWr.out, HR.out, HSr.out, HPr.out _ Hq.out.1 (by have := HIp.out; omega)⟩) : P := h
theorem symA_any (b cap n a m e : Nat) (R : Nat → Nat) (c : Nat → Rw) (K : Nat → List Int) (w : World) (hn : n ≤ 1000) (hm : m = a + 1) (hme : m < e) (he : e ≤ n) (hS2 : Srt' K R m e) (hL : Low R a m e) (hR : ∀ p, p < n → R p < n) (hw : Row2 w b n R c) (hC : CmpOk w b n c K) :
  Calls Tryz.prog 237 #[.slice (some ⟨b, 0, none⟩) n cap, .int .i64 a, .int .i64 m, .int .i64 e, .func (.func 173) #[] #[]] w (RetSr b n c (fun R' => Srt' K R' a e ∧ Prm a e R R') w) := by have zS := trivial; exact scrT3s_symA_any
theorem scrT3s_symB_any {P : Prop} (h : P := by
  have HW := Lh hw
  have HC0 := Lh hC
  have HB := Lh (And.intro hn (And.intro hm (And.intro ham he)))
  have HS1 := Lh hS1
  have HL := Lh hL
  have HRn := Lh hR
  have hcf := cfC
  obtain ⟨ma, hma'⟩ : ∃ ma, ma = m - a := ⟨_, rfl⟩
  have e0 : IntKind.i64.wrap ((m : Int) - (a : Int)) = (ma : Int) := by rw [IntWalk.i64_in _ (by omega)]; omega
  have e0' : ((ma : Int) == 1) = false := by rw [beq_eq_false_iff_ne]; omega
  have e1 : IntKind.i64.wrap ((e : Int) - (m : Int)) = 1 := by rw [IntWalk.i64_in _ (by omega)]; omega
  clear hw hn hm ham he hC hS1 hL hR hma hma'
  first | (have z := zS; clear z; go_enter Tryz.func237, Tryz.ntmps237) | (go_enter Tryz.func202, Tryz.ntmps202)
  go_wp2_with fail
  go_loopw [14, 15] (fun s t wr => ∃ (i j : Nat), s = .int .i64 i ∧ t = .int .i64 j ∧ Hid (a ≤ i ∧ i ≤ j ∧ j ≤ m) ∧ Hid (Gr w wr) ∧ Hid (∀ p, a ≤ p → p < i → ¬ K (R m) < K (R p)) ∧ Hid (∀ p, j ≤ p → p < m → K (R m) < K (R p))) (fun s t _ => (intOf t).toNat - (intOf s).toNat)
  case atStart => exact ⟨a, m, rfl, rfl, Lh (by have := HB.out; omega), Lh (Gr.refl w), Lh (fun p h1 h2 => by omega), Lh (fun p h1 h2 => by omega)⟩
  case round =>
   clear e0 e0' e1
   obtain ⟨i, j, rfl, rfl, Hij, HG, HLo, HHi⟩ := hrel
   by_cases hlt : i < j
   ·have i1 : (i : Int) < (j : Int) := by omega
    have hb := HB.out
    have hi := Hij.out
    obtain ⟨s1, s2, s3, s4⟩ := half_wrap (i := i) (j := j) (by omega)
    obtain ⟨h, hh⟩ : ∃ h, h = (i + j) / 2 := ⟨_, rfl⟩
    rw [← hh] at s3 s4
    have HH := Lh (show i ≤ h ∧ h < j from by omega)
    have q1 : (h : Int) < (n : Int) := by omega
    have q2 : (m : Int) < (n : Int) := by omega
    have HRw := Lh (HW.out.gr HG.out)
    obtain ⟨a1, a2, _, _⟩ := HRw.out m (by omega)
    obtain ⟨b1, b2, _, _⟩ := HRw.out h (by omega)
    have HC := Lh (fun w' (g : Gr wr w') => HC0.out w' (Wr.of_gr (HG.out.trans g)) (R m) (R h) (HRn.out _ (by omega)) (HRn.out _ (by omega)))
    have HE := Lh (cmpI_neg (x := K (R m)) (y := K (R h)))
    have HYes := Lh (show K (R m) < K (R h) → ∀ p, h ≤ p → p < m → K (R m) < K (R p) from fun hl p h1 h2 => by
     by_cases hp : p = h
     ·subst hp; exact hl
     rcases HS1.out h p (by omega) (by omega) h2 with k | ⟨k, _⟩
     ·exact List.lt_trans hl k
     rw [← k]; exact hl)
    have HNo := Lh (show ¬ K (R m) < K (R h) → ∀ p, a ≤ p → p < h + 1 → ¬ K (R m) < K (R p) from fun hl p h1 h2 hk => hl (by
     by_cases hp : p = h
     ·subst hp; exact hk
     rcases HS1.out p h h1 (by omega) (by omega) with k | ⟨k, _⟩
     ·exact List.lt_trans hk k
     rw [← k]; exact hk))
    clear hh hb hi hlt
    generalize c (R m) = x at *
    generalize c (R h) = y at *
    generalize hkx : K (R m) = kx at *
    generalize K (R h) = ky at *
    have HKx := Lh hkx
    clear hkx
    obtain ⟨xa, xn, xc, xy⟩ := x
    obtain ⟨ya, yn, yc, yy⟩ := y
    simp only at a1 a2 b1 b2 HC
    go_wp2_with fail
    refine Hg (fun w' => Gr wr w') 12 ?_
    have hS : Gr wr wr.drew := (Gr.refl wr).drew
    refine H5 0 1 2 3 4 (c4 a1 a2 b1 b2) hS ?_; refine H4 5 6 7 8 (c4 a1 a2 b1 b2) hS ?_
    refine Hr 9 rfl (fun K hK => ?_)
    go_simp
    refine ⟨trivial, ?_⟩
    refine (callsIn_wide.2 (HC.out _ hS)).mono ?_
    rintro e wX ⟨rfl, gX⟩
    have hS : Gr wr wX := hS.trans gX
    refine hK.out _ _ hS ?_
    clear hK K gX
    refine H2 10 11 tv hS ?_
    refine Hd ?_
    clear HC a1 a2 b1 b2
    have HG2 := Lh (HG.out.trans hS)
    clear hS s1 s2 s3 s4
    have hb := HB.out
    have hi := Hij.out
    have hh := HH.out
    generalize hz : decide (cmpI kx ky < 0) = z
    cases z with
    | true =>
     have hl : kx < ky := HE.out.1 (of_decide_eq_true hz)
     have HHi2 := Lh (HYes.out hl)
     clear HYes HNo HE hl hz
     go_wp2_with fail
     go_roundw
     case rel => exact ⟨i, h, rfl, rfl, Lh (by omega), HG2, HLo, HHi2⟩
     case measure => simp only [intOf]; omega
    | false =>
     have hl : ¬ kx < ky := fun h => of_decide_eq_false hz (HE.out.2 h)
     have HLo2 := Lh (HNo.out hl)
     clear HYes HNo HE hl hz
     have e3 : wrap64 ((h : Int) + 1) = ((h + 1 : Nat) : Int) := by rw [IntWalk.wrap64_in _ (by omega)]; omega
     go_wp2_with fail
     go_roundw
     case rel => exact ⟨h + 1, j, by first | (rw [e3]) | rfl | simp, rfl, Lh (by omega), HG2, HLo2, HHi⟩
     case measure => first | (rw [e3]; simp only [intOf]; omega) | (simp only [intOf]; omega)
   have hb := HB.out
   have hi := Hij.out
   obtain rfl : i = j := by omega
   have i1 : ¬ (i : Int) < (i : Int) := by omega
   have HSr := Lh (shD_srt (K := K) (i := i) hb.2.1 (by omega) (by omega) HS1.out HL.out HLo.out HHi.out)
   have HPr := Lh (show Prm a e R (shD R m i) by
    have := shD_prm R (a := a) (e := e) (m := m) (m - i) (by omega) (by omega) (by omega)
    rwa [show m - (m - i) = i by omega] at this)
   have HRw := Lh (HW.out.gr HG.out)
   have HIp := Lh (show a ≤ i ∧ i ≤ m ∧ m < n ∧ n ≤ 1000 from by omega)
   clear hb hi HLo HHi
   go_wp2_with fail
   go_loopw [17] (fun s wr' => ∃ q : Nat, s = .int .i64 q ∧ Hid (i ≤ q ∧ q ≤ m) ∧ Hid (Wr b w wr') ∧ Hid (Row2 wr' b n (shD R m q) c)) (fun s _ => (intOf s).toNat)
   case atStart => exact ⟨m, rfl, Lh (by have := HIp.out; omega), Lh (Wr.of_gr HG.out), Lh (by rw [shD_zero]; exact HRw.out)⟩
   case round =>
    clear HRw HG
    obtain ⟨q, rfl, Hq, HWr, HR⟩ := hrel
    by_cases hlt : i < q
    ·have i2 : (i : Int) < (q : Int) := by omega
     have hb := HIp.out
     have hq := Hq.out
     obtain ⟨Q, hQ⟩ : ∃ Q, q = Q + 1 := ⟨q - 1, by omega⟩
     have e3 : IntKind.i64.wrap ((q : Int) - 1) = (Q : Int) := by rw [IntWalk.i64_in _ (by omega)]; omega
     have q1 : (q : Int) < (n : Int) := by omega
     have q2 : (Q : Int) < (n : Int) := by omega
     obtain ⟨a1, a2, a3, a4⟩ := HR.out q (by omega)
     obtain ⟨b1, b2, b3, b4⟩ := HR.out Q (by omega)
     have HX := Lh (HR.out.exc (i := q) (j := Q) (by omega) (by omega) (by omega))
     have e4 : exc (shD R m q) q Q = shD R m Q := by rw [hQ]; exact shD_next R (by omega)
     rw [e4] at HX
     have HY := Lh (fun wq (h : Wr b w wq) => exW_wr h q Q (c (shD R m q q)) (c (shD R m q Q)))
     unfold exW at HX HY
     generalize c (shD R m q q) = x at *
     generalize c (shD R m q Q) = y at *
     obtain ⟨xa, xn, xc, xy⟩ := x
     obtain ⟨ya, yn, yc, yy⟩ := y
     simp only at a1 a2 b1 b2 HX HY
     first | (have z := zS; clear z; have b1' := cell_by (k := q * 2 + 1) (cell_by (k := q * 2) b1 (by omega) (.slice ya yn yc)) (by omega) (.map (some yy))) | (have b1' := cell_by (k := q * 2 + 1) (cell_by (k := q * 2) b1 (by omega) (.slice ya yn yc)) (by omega) (.int .i64 yy))
     first | (have z := zS; clear z; have b2' := cell_by (k := q * 2 + 1) (cell_by (k := q * 2) b2 (by omega) (.slice ya yn yc)) (by omega) (.map (some yy))) | (have b2' := cell_by (k := q * 2 + 1) (cell_by (k := q * 2) b2 (by omega) (.slice ya yn yc)) (by omega) (.int .i64 yy))
     have a2' := cell_by (k := q * 2) a2 (by omega) (.slice ya yn yc)
     have b2'' := cell_by (k := Q * 2) b2' (by omega) (.slice xa xn xc)
     have HQ := Lh (show q = Q + 1 ∧ i < q from ⟨hQ, hlt⟩)
     clear hQ hlt hb hq e4
     go_wp2_with fail
     go_region
     all_goals go_wp2
     have hb := HIp.out
     have hq := Hq.out
     have hQ := HQ.out
     go_roundw
     case rel => exact ⟨Q, by first | rfl | (rw [e3]) | (rw [hQ.1]; simp), Lh (by omega), Lh (HY.out _ HWr.out).drew, HX⟩
     case measure => first | (simp only [intOf]; omega) | (rw [e3]; simp only [intOf]; omega)
    have i2 : ¬ (i : Int) < (q : Int) := by omega
    obtain rfl : i = q := by have := Hq.out; omega
    go_wp2_with fail
    go_end0
    exact ⟨rfl, _, HWr.out, HR.out, HSr.out, HPr.out⟩) : P := h
theorem symB_any (b cap n a m e : Nat) (R : Nat → Nat) (c : Nat → Rw) (K : Nat → List Int) (w : World) (hn : n ≤ 1000) (hm : e = m + 1) (hma : m ≠ a + 1) (ham : a < m) (he : e ≤ n) (hS1 : Srt' K R a m) (hL : Low R a m e) (hR : ∀ p, p < n → R p < n) (hw : Row2 w b n R c) (hC : CmpOk w b n c K) :
  Calls Tryz.prog 237 #[.slice (some ⟨b, 0, none⟩) n cap, .int .i64 a, .int .i64 m, .int .i64 e, .func (.func 173) #[] #[]] w (RetSr b n c (fun R' => Srt' K R' a e ∧ Prm a e R R') w) := by have zS := trivial; exact scrT3s_symB_any
def SymH (b cap n : Nat) (c : Nat → Rw) (K : Nat → List Int) (d : Nat) : Prop := ∀ (a m e : Nat) (R : Nat → Nat) (w : World), e - a < d → a < m → m < e → e ≤ n → Two K R a m e → (∀ p, p < n → R p < n) → Row2 w b n R c → CmpOk w b n c K →
  Calls Tryz.prog 237 #[.slice (some ⟨b, 0, none⟩) n cap, .int .i64 a, .int .i64 m, .int .i64 e, .func (.func 173) #[] #[]] w (RetSr b n c (fun R' => Srt' K R' a e ∧ Prm a e R R') w)
theorem scrT4s_symM1_any {P : Prop} (h : P := by
  have HW := Lh hw
  have HC0 := Lh hC
  have IH := Lh ih
  have HT2 := Lh hT
  have HRn := Lh hR
  have hcf := cfC
  obtain ⟨ma, hma'⟩ : ∃ ma, ma = m - a := ⟨_, rfl⟩
  obtain ⟨em, hem'⟩ : ∃ em, em = e - m := ⟨_, rfl⟩
  obtain ⟨mid, hmid⟩ : ∃ mid, mid = (a + e) / 2 := ⟨_, rfl⟩
  obtain ⟨nn, hnn⟩ : ∃ nn, nn = mid + m := ⟨_, rfl⟩
  obtain ⟨pp, hpp⟩ : ∃ pp, pp = mid + m - 1 := ⟨_, rfl⟩
  obtain ⟨s0, hs0⟩ : ∃ s0, s0 = mid + m - e := ⟨_, rfl⟩
  obtain ⟨r0, hr0⟩ : ∃ r0, r0 = mid := ⟨_, rfl⟩
  rw [← hmid] at hcase
  have HX := Lh (show n ≤ 1000 ∧ a + 1 < m ∧ m + 1 < e ∧ e ≤ n ∧ a < mid ∧ mid < e ∧ nn = mid + m ∧ pp = mid + m - 1 ∧ a ≤ s0 ∧ s0 ≤ r0 ∧ r0 ≤ m ∧ r0 ≤ mid ∧ mid + m ≤ s0 + e from by omega)
  have HD := Lh (show (mid < m ∧ s0 = mid + m - e ∧ r0 = mid ∧ a ≤ s0) ∨ (m ≤ mid ∧ s0 = a ∧ r0 = m ∧ mid + m - a ≤ e) from by omega)
  have e0 : IntKind.i64.wrap ((m : Int) - (a : Int)) = (ma : Int) := by rw [IntWalk.i64_in _ (by omega)]; omega
  have e0' : ((ma : Int) == 1) = false := by rw [beq_eq_false_iff_ne]; omega
  have e1 : IntKind.i64.wrap ((e : Int) - (m : Int)) = (em : Int) := by rw [IntWalk.i64_in _ (by omega)]; omega
  have e1' : ((em : Int) == 1) = false := by rw [beq_eq_false_iff_ne]; omega
  obtain ⟨t1, t2, t3, t4⟩ := half_wrap (i := a) (j := e) (by omega)
  rw [← hmid] at t3 t4
  have e2 : IntKind.i64.wrap ((mid : Int) + (m : Int)) = (nn : Int) := by rw [IntWalk.i64_in _ (by omega)]; omega
  have e3 : IntKind.i64.wrap ((nn : Int) - 1) = (pp : Int) := by rw [IntWalk.i64_in _ (by omega)]; omega
  have e4 : IntKind.i64.wrap ((nn : Int) - (e : Int)) = (s0 : Int) := by rw [IntWalk.i64_in _ (by omega)]; omega
  have c1 : (mid : Int) < (m : Int) := by omega
  clear hw hn hem ham hme he hT hR hC ih hcase hma' hem' hmid hnn hpp hs0 hr0
  first | (have z := zS; clear z; go_enter Tryz.func237, Tryz.ntmps237) | (go_enter Tryz.func202, Tryz.ntmps202)
  go_wp2_with fail
  go_loopw [20, 21] (fun s t wr => ∃ (i j : Nat), s = .int .i64 i ∧ t = .int .i64 j ∧ Hid (s0 ≤ i ∧ i ≤ j ∧ j ≤ r0) ∧ Hid (Gr w wr) ∧ Hid (s0 < i → ¬ K (R (mid + m - i)) < K (R (i - 1))) ∧ Hid (j < r0 → K (R (mid + m - 1 - j)) < K (R j))) (fun s t _ => (intOf t).toNat - (intOf s).toNat)
  case atStart => exact ⟨s0, r0, rfl, by rw [show r0 = mid by have := HD.out; omega], Lh (by have := HX.out; omega), Lh (Gr.refl w), Lh (fun h => by omega), Lh (fun h => by omega)⟩
  case round =>
   clear e0 e0' e1 e1' t1 t2 t3 t4 e2 e3 e4 c1
   obtain ⟨i, j, rfl, rfl, Hij, HG, HLo, HHi⟩ := hrel
   by_cases hlt : i < j
   ·have i1 : (i : Int) < (j : Int) := by omega
    have hb := HX.out
    have hi := Hij.out
    obtain ⟨h, hh⟩ : ∃ h, h = (i + j) / 2 := ⟨_, rfl⟩
    obtain ⟨z, hz⟩ : ∃ z, z = mid + m - 1 - h := ⟨_, rfl⟩
    have HH := Lh (show i ≤ h ∧ h < j ∧ z = mid + m - 1 - h ∧ mid + m - (h + 1) = z from by omega)
    have q1 : (h : Int) < (n : Int) := by omega
    have q2 : (z : Int) < (n : Int) := by omega
    have HRw := Lh (HW.out.gr HG.out)
    obtain ⟨a1, a2, _, _⟩ := HRw.out z (by omega)
    obtain ⟨b1, b2, _, _⟩ := HRw.out h (by omega)
    have HC := Lh (fun w' (g : Gr wr w') => HC0.out w' (Wr.of_gr (HG.out.trans g)) (R z) (R h) (HRn.out _ (by omega)) (HRn.out _ (by omega)))
    have HE := Lh (cmpI_neg (x := K (R z)) (y := K (R h)))
    have HYes := Lh (show K (R z) < K (R h) → h < r0 → K (R (mid + m - 1 - h)) < K (R h) from fun hl _ => by rw [← hz]; exact hl)
    have HNo := Lh (show ¬ K (R z) < K (R h) → s0 < h + 1 → ¬ K (R (mid + m - (h + 1))) < K (R (h + 1 - 1)) from fun hl _ => by rw [show mid + m - (h + 1) = z by omega, Nat.add_sub_cancel]; exact hl)
    obtain ⟨s1, s2, s3, s4⟩ := half_wrap (i := i) (j := j) (by omega)
    rw [← hh] at s3 s4
    have s5 : IntKind.i64.wrap ((pp : Int) - (h : Int)) = (z : Int) := by rw [IntWalk.i64_in _ (by omega)]; omega
    clear hh hb hi hlt hz
    generalize c (R z) = x at *
    generalize c (R h) = y at *
    generalize K (R z) = kx at *
    generalize hky : K (R h) = ky at *
    have HKy := Lh hky
    clear hky
    obtain ⟨xa, xn, xc, xy⟩ := x
    obtain ⟨ya, yn, yc, yy⟩ := y
    simp only at a1 a2 b1 b2 HC
    go_wp2_with fail
    refine Hg (fun w' => Gr wr w') 14 ?_
    have hS : Gr wr wr.drew := (Gr.refl wr).drew
    refine H5 0 1 2 3 4 (c4 a1 a2 b1 b2) hS ?_; refine H5 5 6 7 8 9 (c4 a1 a2 b1 b2) hS ?_; refine H1 10 (c4 a1 a2 b1 b2) hS ?_
    refine Hr 11 rfl (fun K hK => ?_)
    go_simp
    refine ⟨trivial, ?_⟩
    refine (callsIn_wide.2 (HC.out _ hS)).mono ?_
    rintro e wX ⟨rfl, gX⟩
    have hS : Gr wr wX := hS.trans gX
    refine hK.out _ _ hS ?_
    clear hK K gX
    refine H2 12 13 tv hS ?_
    refine Hd ?_
    clear HC a1 a2 b1 b2 s1 s2 s3 s4 s5
    have HG2 := Lh (HG.out.trans hS)
    clear hS
    have hb := HX.out
    have hi := Hij.out
    have hh := HH.out
    generalize hz : decide (cmpI kx ky < 0) = z at *
    cases z with
    | true =>
     have hl : kx < ky := HE.out.1 (of_decide_eq_true hz)
     have HHi2 := Lh (HYes.out hl)
     clear HYes HNo HE hl hz
     go_wp2_with fail
     go_roundw
     case rel => exact ⟨i, h, rfl, rfl, Lh (by omega), HG2, HLo, Lh (by rw [HKy.out]; exact HHi2.out)⟩
     case measure => simp only [intOf]; omega
    | false =>
     have hl : ¬ kx < ky := fun h => of_decide_eq_false hz (HE.out.2 h)
     have HLo2 := Lh (HNo.out hl)
     clear HYes HNo HE hl hz
     have e3 : wrap64 ((h : Int) + 1) = ((h + 1 : Nat) : Int) := by rw [IntWalk.wrap64_in _ (by omega)]; omega
     have o1 : s0 ≤ h + 1 ∧ h + 1 ≤ j ∧ j ≤ r0 := by clear e3; omega
     have o2 : i < h + 1 := by clear e3; omega
     clear hb hi hh
     go_wp2_with fail
     go_roundw
     case rel => exact ⟨h + 1, j, by first | (rw [e3]) | rfl | simp, rfl, Lh o1, HG2, HLo2, HHi⟩
     case measure => first | (rw [e3]; clear e3; simp only [intOf]; omega) | (clear e3; simp only [intOf]; omega)
   have hb := HX.out
   have hi := Hij.out
   obtain rfl : i = j := by omega
   have j1 : ¬ (i : Int) < (i : Int) := by omega
   have HCut := Lh (cut_found (K := K) (R := R) (a := a) (m := m) (e := e) (mid := mid) (st := i) (s0 := s0) (r0 := r0) (by omega) (by omega) HT2.out.2.2 HD.out (by omega) HLo.out HHi.out)
   obtain ⟨F1, F2, F3⟩ := cut_parts (by omega) (by omega) HCut.out HT2.out.1 HT2.out.2.1 HT2.out.2.2
   obtain ⟨st, hst⟩ : ∃ st, st = i := ⟨_, rfl⟩
   subst hst
   obtain ⟨en, hen⟩ : ∃ en, mid + m - st = en := ⟨_, rfl⟩
   rw [hen] at F1 F2 F3
   obtain ⟨S, hS⟩ : ∃ S, rot R st m en = S := ⟨_, rfl⟩
   have HSe := Lh hS
   have HSp := Lh (show Prm a e R S by
    rw [← hS]
    rcases Nat.lt_or_ge en m with h | h
    ·omega
    exact (Prm.rot R (by omega) h).wide (by omega) (by omega))
   rw [hS] at F1 F2 F3
   have HF1 := Lh (show Two K S a st mid from F1)
   have HF2 := Lh (show Two K S mid en e from F2)
   have HF3 := Lh F3
   have HSn := Lh (prm_lt HSp.out (show e ≤ n by omega) HRn.out)
   replace HX := Lh (show n ≤ 1000 ∧ a < mid ∧ mid < e ∧ e ≤ n ∧ a ≤ st ∧ st ≤ mid ∧ mid ≤ en ∧ en ≤ e ∧ st ≤ m ∧ m ≤ en from by omega)
   have HRw := Lh (HW.out.gr HG.out)
   have HG0 := Lh (show Wr b w wr from Wr.of_gr HG.out)
   have x1 : (st = m ∨ st < m) ∧ (en = m ∨ m < en) ∧ (a = st ∨ a < st) ∧ (st = mid ∨ st < mid) ∧ (mid = en ∨ mid < en) ∧ (en = e ∨ en < e) := by omega
   have e5 : IntKind.i64.wrap ((nn : Int) - (st : Int)) = (en : Int) := by rw [IntWalk.i64_in _ (by omega)]; omega
   clear hb hi hen hS F1 F2 F3 HCut HW HT2 HRn HG
   by_cases kr : st < m ∧ m < en
   case' pos =>
    have i1 : (st : Int) < (m : Int) := by omega
    have i2 : (m : Int) < (en : Int) := by omega
    first | (have z := zS; clear z; have CR := Lh (rotate_any b cap n st m en R c wr (.func (.func 173) #[] #[]) (by have := HX.out; omega) (by omega) (by omega) (by have := HX.out; omega) HRw.out)) | (have CR := Lh (rotate_any b cap n st m en R c wr (.func (.func 133) #[] #[]) (by have := HX.out; omega) (by omega) (by omega) (by have := HX.out; omega) HRw.out))
    rw [HSe.out] at CR
    clear kr HLo HHi
    go_upto_region 41 with ((first | go_at_call 235 | go_at_call 256); (with_reducible refine CR.out.mono ?_); rintro e w1 ⟨rfl, g1, r1⟩; have G1 := Lh (HG0.out.trans g1); have R1 := Lh r1; clear g1 r1 CR)
    clear HG0 HRw
    generalize hwv : w1 = wv at *
    clear hwv
   case' neg =>
    have R1 := Lh (show Row2 wr b n S c by rw [← HSe.out, rot_id R (by omega)]; exact HRw.out)
    have G1 := HG0
    clear HG0 HRw
    by_cases kq : st < m
    case' pos =>
     have i1 : (st : Int) < (m : Int) := by omega
     have i2 : ¬ (m : Int) < (en : Int) := by omega
    case' neg => have i1 : ¬ (st : Int) < (m : Int) := by omega
    all_goals
     clear kq
     clear kr HLo HHi
     go_upto_region 41 with fail
     generalize hwv : wr = wv at *
     clear hwv
   all_goals as_aux_lemma =>
    by_cases ka : a < st ∧ st < mid
    case' pos =>
     have i3 : (a : Int) < (st : Int) := by omega
     have i4 : (st : Int) < (mid : Int) := by omega
     have C1 := Lh (IH.out a st mid S wv (by have := HX.out; omega) (by omega) (by omega) (by have := HX.out; omega) HF1.out HSn.out R1.out (HC0.out.wr G1.out))
     clear ka
     go_upto_region 43 with ((first | go_at_call 202 | go_at_call 237); (with_reducible refine C1.out.mono ?_); rintro e w2 ⟨rfl, T, g2, r2, t1, t2⟩; have G2 := Lh (G1.out.trans g2); have R2 := Lh r2; have HT := Lh (And.intro t1 t2); clear g2 r2 t1 t2 C1)
     clear G1 R1
     generalize hwv : w2 = wv at *
     clear hwv
    case' neg =>
     obtain ⟨T, R2, HT⟩ : ∃ T, Hid (Row2 wv b n T c) ∧ Hid (Srt' K T a mid ∧ Prm a mid S T) := ⟨S, R1, Lh ⟨HF1.out.one (by omega), Prm.refl _ _ _⟩⟩
     have G2 := G1
     clear G1 R1
     by_cases kq : a < st
     case' pos =>
      have i3 : (a : Int) < (st : Int) := by omega
      have i4 : ¬ (st : Int) < (mid : Int) := by omega
     case' neg => have i3 : ¬ (a : Int) < (st : Int) := by omega
     all_goals
      clear kq
      clear ka
      go_upto_region 43 with fail
    all_goals as_aux_lemma =>
     by_cases kb : mid < en ∧ en < e
     case' pos =>
      have i5 : (mid : Int) < (en : Int) := by omega
      have i6 : (en : Int) < (e : Int) := by omega
      have C2 := Lh (IH.out mid en e T wv (by have := HX.out; omega) (by omega) (by omega) (by have := HX.out; omega) (HF2.out.keep HT.out.2 (by have := HX.out; omega)) (prm_lt HT.out.2 (by have := HX.out; omega) HSn.out) R2.out (HC0.out.wr G2.out))
      clear kb
      go_wp2_with ((first | go_at_call 202 | go_at_call 237); (with_reducible refine C2.out.mono ?_); rintro e w3 ⟨rfl, U, g3, r3, t1, t2⟩; have G3 := Lh (G2.out.trans g3); have R3 := Lh r3; have HU := Lh (And.intro t1 t2); clear g3 r3 t1 t2 C2)
     case' neg =>
      obtain ⟨U, R3, HU⟩ : ∃ U, Hid (Row2 wv b n U c) ∧ Hid (Srt' K U mid e ∧ Prm mid e T U) := ⟨T, R2, Lh ⟨(HF2.out.one (by omega)).congr fun q k1 _ => HT.out.2.out q (.inr k1), Prm.refl _ _ _⟩⟩
      have G3 := G2
      by_cases kq : mid < en
      case' pos =>
       have i5 : (mid : Int) < (en : Int) := by omega
       have i6 : ¬ (en : Int) < (e : Int) := by omega
      case' neg => have i5 : ¬ (mid : Int) < (en : Int) := by omega
      all_goals
       clear kq
       clear kb
       go_wp2_with fail
     all_goals (go_end0; exact ⟨rfl, U, G3.out, R3.out, mrg_end (by have := HX.out; omega) (by have := HX.out; omega) HSp.out HF3.out HT.out.1 HT.out.2 HU.out.1 HU.out.2⟩)) : P := h
theorem symM1_any (b cap n a m e : Nat) (R : Nat → Nat) (c : Nat → Rw) (K : Nat → List Int) (w : World) (hn : n ≤ 1000) (hem : e ≠ m + 1) (ham : a < m) (hme : m < e) (he : e ≤ n) (hcase : (a + e) / 2 < m) (hT : Two K R a m e) (hR : ∀ p, p < n → R p < n) (hw : Row2 w b n R c) (hC : CmpOk w b n c K) (ih : SymH b cap n c K (e - a)) :
  Calls Tryz.prog 237 #[.slice (some ⟨b, 0, none⟩) n cap, .int .i64 a, .int .i64 m, .int .i64 e, .func (.func 173) #[] #[]] w (RetSr b n c (fun R' => Srt' K R' a e ∧ Prm a e R R') w) := by have zS := trivial; exact scrT4s_symM1_any
theorem scrT4s_symM2_any {P : Prop} (h : P := by
  have HW := Lh hw
  have HC0 := Lh hC
  have IH := Lh ih
  have HT2 := Lh hT
  have HRn := Lh hR
  have hcf := cfC
  obtain ⟨ma, hma'⟩ : ∃ ma, ma = m - a := ⟨_, rfl⟩
  obtain ⟨em, hem'⟩ : ∃ em, em = e - m := ⟨_, rfl⟩
  obtain ⟨mid, hmid⟩ : ∃ mid, mid = (a + e) / 2 := ⟨_, rfl⟩
  obtain ⟨nn, hnn⟩ : ∃ nn, nn = mid + m := ⟨_, rfl⟩
  obtain ⟨pp, hpp⟩ : ∃ pp, pp = mid + m - 1 := ⟨_, rfl⟩
  obtain ⟨s0, hs0⟩ : ∃ s0, s0 = a := ⟨_, rfl⟩
  obtain ⟨r0, hr0⟩ : ∃ r0, r0 = m := ⟨_, rfl⟩
  rw [← hmid] at hcase
  have HX := Lh (show n ≤ 1000 ∧ a + 1 < m ∧ m + 1 < e ∧ e ≤ n ∧ a < mid ∧ mid < e ∧ nn = mid + m ∧ pp = mid + m - 1 ∧ a ≤ s0 ∧ s0 ≤ r0 ∧ r0 ≤ m ∧ r0 ≤ mid ∧ mid + m ≤ s0 + e from by omega)
  have HD := Lh (show (mid < m ∧ s0 = mid + m - e ∧ r0 = mid ∧ a ≤ s0) ∨ (m ≤ mid ∧ s0 = a ∧ r0 = m ∧ mid + m - a ≤ e) from by omega)
  have e0 : IntKind.i64.wrap ((m : Int) - (a : Int)) = (ma : Int) := by rw [IntWalk.i64_in _ (by omega)]; omega
  have e0' : ((ma : Int) == 1) = false := by rw [beq_eq_false_iff_ne]; omega
  have e1 : IntKind.i64.wrap ((e : Int) - (m : Int)) = (em : Int) := by rw [IntWalk.i64_in _ (by omega)]; omega
  have e1' : ((em : Int) == 1) = false := by rw [beq_eq_false_iff_ne]; omega
  obtain ⟨t1, t2, t3, t4⟩ := half_wrap (i := a) (j := e) (by omega)
  rw [← hmid] at t3 t4
  have e2 : IntKind.i64.wrap ((mid : Int) + (m : Int)) = (nn : Int) := by rw [IntWalk.i64_in _ (by omega)]; omega
  have e3 : IntKind.i64.wrap ((nn : Int) - 1) = (pp : Int) := by rw [IntWalk.i64_in _ (by omega)]; omega
  have c1 : ¬ (mid : Int) < (m : Int) := by omega
  clear hw hn hma hem ham hme he hT hR hC ih hcase hma' hem' hmid hnn hpp hs0 hr0
  first | (have z := zS; clear z; go_enter Tryz.func237, Tryz.ntmps237) | (go_enter Tryz.func202, Tryz.ntmps202)
  go_wp2_with fail
  go_loopw [20, 21] (fun s t wr => ∃ (i j : Nat), s = .int .i64 i ∧ t = .int .i64 j ∧ Hid (s0 ≤ i ∧ i ≤ j ∧ j ≤ r0) ∧ Hid (Gr w wr) ∧ Hid (s0 < i → ¬ K (R (mid + m - i)) < K (R (i - 1))) ∧ Hid (j < r0 → K (R (mid + m - 1 - j)) < K (R j))) (fun s t _ => (intOf t).toNat - (intOf s).toNat)
  case atStart => exact ⟨s0, r0, by rw [show s0 = a by have := HD.out; omega], by rw [show r0 = m by have := HD.out; omega], Lh (by have := HX.out; omega), Lh (Gr.refl w), Lh (fun h => by omega), Lh (fun h => by omega)⟩
  case round =>
   clear e0 e0' e1 e1' t1 t2 t3 t4 e2 e3 c1
   obtain ⟨i, j, rfl, rfl, Hij, HG, HLo, HHi⟩ := hrel
   by_cases hlt : i < j
   ·have i1 : (i : Int) < (j : Int) := by omega
    have hb := HX.out
    have hi := Hij.out
    obtain ⟨h, hh⟩ : ∃ h, h = (i + j) / 2 := ⟨_, rfl⟩
    obtain ⟨z, hz⟩ : ∃ z, z = mid + m - 1 - h := ⟨_, rfl⟩
    have HH := Lh (show i ≤ h ∧ h < j ∧ z = mid + m - 1 - h ∧ mid + m - (h + 1) = z from by omega)
    have q1 : (h : Int) < (n : Int) := by omega
    have q2 : (z : Int) < (n : Int) := by omega
    have HRw := Lh (HW.out.gr HG.out)
    obtain ⟨a1, a2, _, _⟩ := HRw.out z (by omega)
    obtain ⟨b1, b2, _, _⟩ := HRw.out h (by omega)
    have HC := Lh (fun w' (g : Gr wr w') => HC0.out w' (Wr.of_gr (HG.out.trans g)) (R z) (R h) (HRn.out _ (by omega)) (HRn.out _ (by omega)))
    have HE := Lh (cmpI_neg (x := K (R z)) (y := K (R h)))
    have HYes := Lh (show K (R z) < K (R h) → h < r0 → K (R (mid + m - 1 - h)) < K (R h) from fun hl _ => by rw [← hz]; exact hl)
    have HNo := Lh (show ¬ K (R z) < K (R h) → s0 < h + 1 → ¬ K (R (mid + m - (h + 1))) < K (R (h + 1 - 1)) from fun hl _ => by rw [show mid + m - (h + 1) = z by omega, Nat.add_sub_cancel]; exact hl)
    obtain ⟨s1, s2, s3, s4⟩ := half_wrap (i := i) (j := j) (by omega)
    rw [← hh] at s3 s4
    have s5 : IntKind.i64.wrap ((pp : Int) - (h : Int)) = (z : Int) := by rw [IntWalk.i64_in _ (by omega)]; omega
    clear hh hb hi hlt hz
    generalize c (R z) = x at *
    generalize c (R h) = y at *
    generalize K (R z) = kx at *
    generalize hky : K (R h) = ky at *
    have HKy := Lh hky
    clear hky
    obtain ⟨xa, xn, xc, xy⟩ := x
    obtain ⟨ya, yn, yc, yy⟩ := y
    simp only at a1 a2 b1 b2 HC
    go_wp2_with fail
    refine Hg (fun w' => Gr wr w') 14 ?_
    have hS : Gr wr wr.drew := (Gr.refl wr).drew
    refine H5 0 1 2 3 4 (c4 a1 a2 b1 b2) hS ?_; refine H5 5 6 7 8 9 (c4 a1 a2 b1 b2) hS ?_; refine H1 10 (c4 a1 a2 b1 b2) hS ?_
    refine Hr 11 rfl (fun K hK => ?_)
    go_simp
    refine ⟨trivial, ?_⟩
    refine (callsIn_wide.2 (HC.out _ hS)).mono ?_
    rintro e wX ⟨rfl, gX⟩
    have hS : Gr wr wX := hS.trans gX
    refine hK.out _ _ hS ?_
    clear hK K gX
    refine H2 12 13 tv hS ?_
    refine Hd ?_
    clear HC a1 a2 b1 b2 s1 s2 s3 s4 s5
    have HG2 := Lh (HG.out.trans hS)
    clear hS
    have hb := HX.out
    have hi := Hij.out
    have hh := HH.out
    generalize hz : decide (cmpI kx ky < 0) = z at *
    cases z with
    | true =>
     have hl : kx < ky := HE.out.1 (of_decide_eq_true hz)
     have HHi2 := Lh (HYes.out hl)
     clear HYes HNo HE hl hz
     go_wp2_with fail
     go_roundw
     case rel => exact ⟨i, h, rfl, rfl, Lh (by omega), HG2, HLo, Lh (by rw [HKy.out]; exact HHi2.out)⟩
     case measure => simp only [intOf]; omega
    | false =>
     have hl : ¬ kx < ky := fun h => of_decide_eq_false hz (HE.out.2 h)
     have HLo2 := Lh (HNo.out hl)
     clear HYes HNo HE hl hz
     have e3 : wrap64 ((h : Int) + 1) = ((h + 1 : Nat) : Int) := by rw [IntWalk.wrap64_in _ (by omega)]; omega
     have o1 : s0 ≤ h + 1 ∧ h + 1 ≤ j ∧ j ≤ r0 := by clear e3; omega
     have o2 : i < h + 1 := by clear e3; omega
     clear hb hi hh
     go_wp2_with fail
     go_roundw
     case rel => exact ⟨h + 1, j, by first | (rw [e3]) | rfl | simp, rfl, Lh o1, HG2, HLo2, HHi⟩
     case measure => first | (rw [e3]; clear e3; simp only [intOf]; omega) | (clear e3; simp only [intOf]; omega)
   have hb := HX.out
   have hi := Hij.out
   obtain rfl : i = j := by omega
   have j1 : ¬ (i : Int) < (i : Int) := by omega
   have HCut := Lh (cut_found (K := K) (R := R) (a := a) (m := m) (e := e) (mid := mid) (st := i) (s0 := s0) (r0 := r0) (by omega) (by omega) HT2.out.2.2 HD.out (by omega) HLo.out HHi.out)
   obtain ⟨F1, F2, F3⟩ := cut_parts (by omega) (by omega) HCut.out HT2.out.1 HT2.out.2.1 HT2.out.2.2
   obtain ⟨st, hst⟩ : ∃ st, st = i := ⟨_, rfl⟩
   subst hst
   obtain ⟨en, hen⟩ : ∃ en, mid + m - st = en := ⟨_, rfl⟩
   rw [hen] at F1 F2 F3
   obtain ⟨S, hS⟩ : ∃ S, rot R st m en = S := ⟨_, rfl⟩
   have HSe := Lh hS
   have HSp := Lh (show Prm a e R S by
    rw [← hS]
    rcases Nat.lt_or_ge en m with h | h
    ·omega
    exact (Prm.rot R (by omega) h).wide (by omega) (by omega))
   rw [hS] at F1 F2 F3
   have HF1 := Lh (show Two K S a st mid from F1)
   have HF2 := Lh (show Two K S mid en e from F2)
   have HF3 := Lh F3
   have HSn := Lh (prm_lt HSp.out (show e ≤ n by omega) HRn.out)
   replace HX := Lh (show n ≤ 1000 ∧ a < mid ∧ mid < e ∧ e ≤ n ∧ a ≤ st ∧ st ≤ mid ∧ mid ≤ en ∧ en ≤ e ∧ st ≤ m ∧ m ≤ en from by omega)
   have HRw := Lh (HW.out.gr HG.out)
   have HG0 := Lh (show Wr b w wr from Wr.of_gr HG.out)
   have x1 : (st = m ∨ st < m) ∧ (en = m ∨ m < en) ∧ (a = st ∨ a < st) ∧ (st = mid ∨ st < mid) ∧ (mid = en ∨ mid < en) ∧ (en = e ∨ en < e) := by omega
   have e5 : IntKind.i64.wrap ((nn : Int) - (st : Int)) = (en : Int) := by rw [IntWalk.i64_in _ (by omega)]; omega
   clear hb hi hen hS F1 F2 F3 HCut HW HT2 HRn HG
   by_cases kr : st < m ∧ m < en
   case' pos =>
    have i1 : (st : Int) < (m : Int) := by omega
    have i2 : (m : Int) < (en : Int) := by omega
    first | (have z := zS; clear z; have CR := Lh (rotate_any b cap n st m en R c wr (.func (.func 173) #[] #[]) (by have := HX.out; omega) (by omega) (by omega) (by have := HX.out; omega) HRw.out)) | (have CR := Lh (rotate_any b cap n st m en R c wr (.func (.func 133) #[] #[]) (by have := HX.out; omega) (by omega) (by omega) (by have := HX.out; omega) HRw.out))
    rw [HSe.out] at CR
    clear kr HLo HHi
    go_upto_region 41 with ((first | go_at_call 235 | go_at_call 256); (with_reducible refine CR.out.mono ?_); rintro e w1 ⟨rfl, g1, r1⟩; have G1 := Lh (HG0.out.trans g1); have R1 := Lh r1; clear g1 r1 CR)
    clear HG0 HRw
    generalize hwv : w1 = wv at *
    clear hwv
   case' neg =>
    have R1 := Lh (show Row2 wr b n S c by rw [← HSe.out, rot_id R (by omega)]; exact HRw.out)
    have G1 := HG0
    clear HG0 HRw
    by_cases kq : st < m
    case' pos =>
     have i1 : (st : Int) < (m : Int) := by omega
     have i2 : ¬ (m : Int) < (en : Int) := by omega
    case' neg => have i1 : ¬ (st : Int) < (m : Int) := by omega
    all_goals
     clear kq
     clear kr HLo HHi
     go_upto_region 41 with fail
     generalize hwv : wr = wv at *
     clear hwv
   all_goals as_aux_lemma =>
    by_cases ka : a < st ∧ st < mid
    case' pos =>
     have i3 : (a : Int) < (st : Int) := by omega
     have i4 : (st : Int) < (mid : Int) := by omega
     have C1 := Lh (IH.out a st mid S wv (by have := HX.out; omega) (by omega) (by omega) (by have := HX.out; omega) HF1.out HSn.out R1.out (HC0.out.wr G1.out))
     clear ka
     go_upto_region 43 with ((first | go_at_call 202 | go_at_call 237); (with_reducible refine C1.out.mono ?_); rintro e w2 ⟨rfl, T, g2, r2, t1, t2⟩; have G2 := Lh (G1.out.trans g2); have R2 := Lh r2; have HT := Lh (And.intro t1 t2); clear g2 r2 t1 t2 C1)
     clear G1 R1
     generalize hwv : w2 = wv at *
     clear hwv
    case' neg =>
     obtain ⟨T, R2, HT⟩ : ∃ T, Hid (Row2 wv b n T c) ∧ Hid (Srt' K T a mid ∧ Prm a mid S T) := ⟨S, R1, Lh ⟨HF1.out.one (by omega), Prm.refl _ _ _⟩⟩
     have G2 := G1
     clear G1 R1
     by_cases kq : a < st
     case' pos =>
      have i3 : (a : Int) < (st : Int) := by omega
      have i4 : ¬ (st : Int) < (mid : Int) := by omega
     case' neg => have i3 : ¬ (a : Int) < (st : Int) := by omega
     all_goals
      clear kq
      clear ka
      go_upto_region 43 with fail
    all_goals as_aux_lemma =>
     by_cases kb : mid < en ∧ en < e
     case' pos =>
      have i5 : (mid : Int) < (en : Int) := by omega
      have i6 : (en : Int) < (e : Int) := by omega
      have C2 := Lh (IH.out mid en e T wv (by have := HX.out; omega) (by omega) (by omega) (by have := HX.out; omega) (HF2.out.keep HT.out.2 (by have := HX.out; omega)) (prm_lt HT.out.2 (by have := HX.out; omega) HSn.out) R2.out (HC0.out.wr G2.out))
      clear kb
      go_wp2_with ((first | go_at_call 202 | go_at_call 237); (with_reducible refine C2.out.mono ?_); rintro e w3 ⟨rfl, U, g3, r3, t1, t2⟩; have G3 := Lh (G2.out.trans g3); have R3 := Lh r3; have HU := Lh (And.intro t1 t2); clear g3 r3 t1 t2 C2)
     case' neg =>
      obtain ⟨U, R3, HU⟩ : ∃ U, Hid (Row2 wv b n U c) ∧ Hid (Srt' K U mid e ∧ Prm mid e T U) := ⟨T, R2, Lh ⟨(HF2.out.one (by omega)).congr fun q k1 _ => HT.out.2.out q (.inr k1), Prm.refl _ _ _⟩⟩
      have G3 := G2
      by_cases kq : mid < en
      case' pos =>
       have i5 : (mid : Int) < (en : Int) := by omega
       have i6 : ¬ (en : Int) < (e : Int) := by omega
      case' neg => have i5 : ¬ (mid : Int) < (en : Int) := by omega
      all_goals
       clear kq
       clear kb
       go_wp2_with fail
     all_goals (go_end0; exact ⟨rfl, U, G3.out, R3.out, mrg_end (by have := HX.out; omega) (by have := HX.out; omega) HSp.out HF3.out HT.out.1 HT.out.2 HU.out.1 HU.out.2⟩)) : P := h
theorem symM2_any (b cap n a m e : Nat) (R : Nat → Nat) (c : Nat → Rw) (K : Nat → List Int) (w : World) (hn : n ≤ 1000) (hma : m ≠ a + 1) (hem : e ≠ m + 1) (ham : a < m) (hme : m < e) (he : e ≤ n) (hcase : m ≤ (a + e) / 2) (hT : Two K R a m e) (hR : ∀ p, p < n → R p < n) (hw : Row2 w b n R c) (hC : CmpOk w b n c K) (ih : SymH b cap n c K (e - a)) :
  Calls Tryz.prog 237 #[.slice (some ⟨b, 0, none⟩) n cap, .int .i64 a, .int .i64 m, .int .i64 e, .func (.func 173) #[] #[]] w (RetSr b n c (fun R' => Srt' K R' a e ∧ Prm a e R R') w) := by have zS := trivial; exact scrT4s_symM2_any
end Go.Proofs.YtehdemcfeoiecaaGreatDoor.RS
