/- Contracts of chapter 2: the layers, of the program and of the reference; the same tables; Wide. -/
import Derived.Test.YthgbnjndljjbgaaDoorW21
import Derived.Test.YthgbnjndljjbgaaDoorP9
namespace Go.Proofs.YthgbnjndljjbgaaDoor
open Go.RowKit Go.Firn

theorem Tryd.info23 : (Tryd.prog.info? 23).map (fun i => (i.zero, i.size, i.bytes)) = some (some (.slice none 0 0), 1, 24) := by kernel_rfl

/-- The layers of valid hits. -/
def RetLT (n : Nat) (P T : Nat → Int) (w : World) (e : Ending) (w' : World) : Prop :=
  ∃ a c m, e = .returned (.slice a m c) ∧ m ≤ c ∧ c ≤ maxLen ∧ LastL n P T m ∧ m ≤ n ∧ RdT w' a m (tr nf (layT n P T m)) ∧ Gr w w'

set_option maxHeartbeats 1000000 in
theorem layers_any {n p b1 b2 : Nat} {P T : Nat → Int} (hn : n ≤ 14) (w : World) (hT : Tab w) (O : OrdB w p b1 b2 n (pastM n P T) (futM n P T)) :
    Calls Tryd.prog 80 #[.pointer (some ⟨p, 0, none⟩)] w (RetLT n P T w) := by
  have HO := Lib.hid O
  have TT := Lib.hid hT
  have A0 := Lib.hid (fun w' O => by have := all_any (n := n) (p := p) (b1 := b1) (b2 := b2) (f := pastM n P T) (g := futM n P T) hn w' O; rw [← leftM_top n P T] at this; exact this)
  clear O hT
  go_enter Tryd.func80, Tryd.ntmps80
  go_wp2_with (go_at_call 75; refine (A0.out _ HO.out).mono ?_; rintro e w1 ⟨rfl, rfl⟩)
  go_loopw [3, 4] (fun v s wr => ∃ k : Nat, s = .int .u16 (leftM n P T k : Nat) ∧ OwnT w w.heap.size nf wr v (layT n P T k) ∧ Hid (∀ j, j < k → cnt (leftK n P T j) n ≠ 0)) (fun _ s _ => cnt (intOf s).toNat.testBit n)
  case atStart => exact ⟨0, rfl, OwnT.nil' (Gr.refl w) (Nat.le_refl _) (Nat.le_refl _) nf, fun j hj => by omega⟩
  case round =>
    obtain ⟨k, rfl, hown, hne⟩ := hrel
    have hle := left_le hne.out
    by_cases hz : leftM n P T k = 0
    · have hL : LastL n P T k := ⟨leftM_zero_iff.1 hz, hne.out⟩
      rw [hz]
      clear hz hne
      go_wp2_with fail
      go_ret
      obtain ⟨a, c, rfl, h1, h2, h3⟩ := hown.rd
      rw [layT_length] at h1 h3 ⊢
      exact ⟨a, c, k, rfl, h1, h2, hL, by omega, h3, hown.1.1⟩
    · have hc : cnt (leftK n P T k) n ≠ 0 := fun h => hz (leftM_zero_iff.2 h)
      have z1 : ((leftM n P T k : Nat) : Int) ≠ 0 := by omega
      have z2 : (((leftM n P T k : Nat) : Int) != 0) = true := by simpa using hz
      have p14 := pow14 hn
      have lt1 := leftM_lt n P T k
      have lt2 := freeM_lt n P T (leftM n P T k)
      have e1 : bits .andNot .u16 ((leftM n P T k : Nat) : Int) ((freeM n P T (leftM n P T k) : Nat) : Int) = ((leftM n P T (k + 1) : Nat) : Int) := by
        rw [u16_andNot_nat _ _ (by omega) (by omega), leftM_next hn]
      have C1 := Lib.hid (fun w' hT O => free_any (n := n) (p := p) (b1 := b1) (b2 := b2) (P := P) (T := T) hn (leftM n P T k) w' lt1 hT O)
      have C2 := Lib.hid (fun w' hT => by have := list_f (freeM n P T (leftM n P T k)) w' (by omega) hT; rw [layK1_free hn] at this; exact this)
      have LS := Lib.hid (layT_succ n P T k)
      have K := Lib.hid (show (layT n P T k).length < 1000000 by rw [layT_length]; omega)
      have NE := Lib.hid (show ∀ j, j < k + 1 → cnt (leftK n P T j) n ≠ 0 from fun j hj => by
        by_cases e : j = k
        · subst e; exact hc
        · exact hne.out j (by omega))
      have ME := Lib.hid (show cnt (leftM n P T (k + 1)).testBit n < cnt (leftM n P T k).testBit n by
        rw [fun_bit, fun_bit]
        have := left_cnt n P T k
        have := lay_pos hc
        omega)
      generalize freeM n P T (leftM n P T k) = fm at e1 C1 C2
      generalize layK1 n P T k = L at C2 LS
      clear hz hc hne p14 lt1 lt2
      go_wp2_with (first
        | (go_at_call 74; refine (C1.out _ (TT.out.gr hown.1.1) (HO.out.gr hown.1.1)).mono ?_; rintro e w2 ⟨rfl, g2⟩; have ow2 := Lib.hid (hown.gr g2))
        | (go_at_call 70; refine (C2.out _ (TT.out.gr ow2.out.1.1)).mono ?_; rintro e w3 ⟨a, c, rfl, r1, r2, r3, g3, r5⟩; have ow3 := Lib.hid (ow2.out.gr g3); have hy := Lib.hid (show Holds w.heap.size w3 u3 nf (.slice a L.length c) L from ⟨a, c, rfl, r1, r2, r3, r5.imp id (fun ⟨b, o, q1, q2, q3⟩ => ⟨b, o, q1, q2, fun q => by have := ow2.out.lt q.symm; omega, Nat.le_trans ow2.out.1.2.2 q3⟩)⟩))
        | (at_builtin; go_must (refine wpList_app_list rfl _ _ 43 rfl Tryd.underlying43 Tryd.info23 nf _ _ rfl (ow3.out.gr ((Gr.refl _).alloc _)) _ _ L rfl (cell_new1 _ _ _) (hy.out.gr ((Gr.refl _).alloc _)) K.out ?_); intro v1 w4 ow4 g4))
      go_roundw
      case rel => exact ⟨k + 1, rfl, by rw [LS.out]; exact ow4, NE.out⟩
      case measure => exact ME.out

end Go.Proofs.YthgbnjndljjbgaaDoor
