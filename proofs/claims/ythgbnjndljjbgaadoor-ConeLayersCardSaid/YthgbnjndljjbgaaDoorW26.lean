/- Contracts of chapter 2: AreLayers of the program and of the reference. -/
import Derived.Test.YthgbnjndljjbgaaDoorW25
namespace Go.Proofs.YthgbnjndljjbgaaDoor
open Go.RowKit Go.Firn

theorem areB_many {n : Nat} {B : Nat → (Nat → Int) → Bool} {N : Nat} {r : Nat → Nat × (Nat → Int)} (h : 50 < N) : areB n B N r = false := by
  unfold areB; rw [show decide (N ≤ 50) = false from decide_eq_false (by omega)]; rfl
theorem areB_all {n : Nat} {B : Nat → (Nat → Int) → Bool} {N : Nat} {r : Nat → Nat × (Nat → Int)} (h : N ≤ 50) (hk : kindK B r N = true) : areB n B N r = onceB n N r := by
  rw [areB_done hk]; simp [h]
theorem kindK_at {B : Nat → (Nat → Int) → Bool} {r : Nat → Nat × (Nat → Int)} {N : Nat} (h : kindK B r N = true) {i : Nat} (hi : i < N) : B (r i).1 (r i).2 = true := by
  unfold kindK at h
  exact List.all_eq_true.1 h i (List.mem_range.2 hi)

set_option maxHeartbeats 1000000 in
theorem areL_any (adr : Option Addr) (n cc : Nat) (P T : Nat → Int) (V : VH n P T) (a : Option Addr) (N c : Nat) (r : Nat → Nat × (Nat → Int)) (w : World) (hN : N ≤ 60) (h60 : ∀ i, i < N → (r i).1 ≤ 60) (hh : RdM w adr n P T) (hr : RdT w a N r) :
    Calls Tryd.prog 83 #[.slice adr n cc, .slice a N c, .bool true] w (RetB (areB n (layB n P T) N r) w) := by
  have HR := Lib.hid hr
  have HH := Lib.hid hh
  have HV := Lib.hid V
  have H6 := Lib.hid h60
  clear hr h60 hh V
  by_cases h5 : N ≤ 50
  rotate_left
  · have E := Lib.hid (areB_many (n := n) (B := layB n P T) (r := r) (show 50 < N by omega))
    have h5' : (50 : Int) < (N : Int) := by omega
    go_enter Tryd.func83, Tryd.ntmps83
    go_wp2_with fail
    go_ret
    rw [E.out]
    exact ⟨rfl, Gr.refl w⟩
  have h5' : ¬ (50 : Int) < (N : Int) := by omega
  go_enter Tryd.func83, Tryd.ntmps83
  go_wp2_with fail
  go_loopw [7] (fun si wr => ∃ k : Nat, k ≤ N ∧ si = .int .i64 k ∧ Hid (kindK (layB n P T) r k = true) ∧ Hid (∃ d, wr = w.drewN d)) (fun si _ => N - (intOf si).toNat)
  case atStart => exact ⟨0, Nat.zero_le _, rfl, kindK_zero _ _, 0, rfl⟩
  case round =>
    obtain ⟨k, hk, rfl, hK, hd⟩ := hrel
    by_cases hlt : k < N
    · obtain ⟨b, o, ai, ci, rfl, hc, l1, l2, l3⟩ := (rdT_drewN HR.out hd.out).at hlt
      have i1 : (k : Int) < (N : Int) := by omega
      have C1 := Lib.hid (refisLayer_any adr n cc P T HV.out ai (r k).1 ci (r k).2 wr (by have := H6.out k hlt; omega) (rdM_drewN HH.out hd.out) l3)
      clear l1 l2 l3
      cases hb : layB n P T (r k).1 (r k).2 with
      | true =>
        have KS := Lib.hid (show kindK (layB n P T) r (k + 1) = true by rw [kindK_succ, hK.out, hb]; rfl)
        rw [hb] at C1
        clear hb
        generalize (r k).1 = m at *
        go_wp2_with (go_at_call 65; (with_reducible refine C1.out.mono ?_); rintro e w1 ⟨rfl, hd1⟩; have HD := Lib.hid (show ∃ d, w1 = w.drewN d from by obtain ⟨d, rfl⟩ := hd.out; obtain ⟨d', rfl⟩ := hd1; exact drewN_more ⟨d, rfl⟩ _); clear hd1)
        go_roundw
        case rel => exact ⟨k + 1, hlt, by go_num, KS, HD⟩
        case measure => simp [intOf]; omega
      | false =>
        have E := Lib.hid (show areB n (layB n P T) N r = false from areB_kind hlt hb)
        rw [hb] at C1
        clear hb
        generalize (r k).1 = m at *
        go_wp2_with (go_at_call 65; (with_reducible refine C1.out.mono ?_); rintro e w1 ⟨rfl, hd1⟩; have HD := Lib.hid (show Gr w w1 from by obtain ⟨d, rfl⟩ := hd.out; obtain ⟨d', rfl⟩ := hd1; exact ((Gr.refl w).drewN _).drewN _); clear hd1)
        go_ret
        rw [E.out]
        exact ⟨rfl, HD.out⟩
    · obtain rfl : k = N := by omega
      have E := Lib.hid (areB_all (n := n) h5 hK.out)
      have G1 := Lib.hid (show Gr w wr from by obtain ⟨d, rfl⟩ := hd.out; exact (Gr.refl w).drewN _)
      have C1 := Lib.hid (once_any adr n cc HV.out.few a k c r wr hN H6.out (fun i hi j hj => layB_hit (kindK_at hK.out hi) hj) (HR.out.gr G1.out))
      go_wp2_with (go_at_call 102; (with_reducible refine C1.out.mono ?_); rintro e w1 ⟨rfl, g1⟩)
      go_ret
      rw [E.out]
      exact ⟨rfl, G1.out.trans g1⟩

/-- What AreLayers gives. -/
def areG (n : Nat) (P T : Nat → Int) (B : Nat → (Nat → Int) → Bool) (N : Nat) (r : Nat → Nat × (Nat → Int)) : Bool := vH n P T && areB n B N r

theorem refAreLayers_any (adr : Option Addr) (n cc : Nat) (P T : Nat → Int) (a : Option Addr) (N c : Nat) (r : Nat → Nat × (Nat → Int)) (w : World) (hn : n ≤ 1000) (hN : N ≤ 60) (h60 : ∀ i, i < N → (r i).1 ≤ 60) (hh : RdM w adr n P T) (hr : RdT w a N r) :
    Calls Tryd.prog 40 #[.slice adr n cc, .slice a N c] w (RetBE (areG n P T (layB n P T) N r) (errH n P T) w) := by
  have HH := Lib.hid hh
  have HR := Lib.hid hr
  have H6 := Lib.hid h60
  clear hh hr h60
  cases hv : vH n P T with
  | true =>
    have HV := Lib.hid (vH_iff.1 hv)
    have EV := Lib.hid hv
    have e1 := Lib.hid (show areG n P T (layB n P T) N r = areB n (layB n P T) N r by unfold areG; rw [hv]; rfl)
    have e2 := Lib.hid (show errH n P T = 0 by unfold errH; rw [if_pos hv])
    rw [e1.out, e2.out]
    clear hv
    go_enter Tryd.func40, Tryd.ntmps40
    go_wp2_with (first
      | (go_at_call 27; refine (refValid_any adr n cc P T _ hn HH.out).mono ?_; rintro e w1 h1; obtain ⟨rfl, g1⟩ := h1.gr; clear h1; rw [EV.out])
      | (go_at_call 83; refine (areL_any adr n cc P T HV.out a N c r _ hN H6.out (HH.out.gr g1) (HR.out.gr g1)).mono ?_; rintro e w2 ⟨rfl, g2⟩))
    go_ret2
    exact ⟨rfl, g1.trans g2⟩
  | false =>
    have HV := Lib.hid hv
    have e1 := Lib.hid (show areG n P T (layB n P T) N r = false by unfold areG; rw [hv]; rfl)
    have e2 := Lib.hid (show errH n P T = 20 by unfold errH; rw [hv]; rfl)
    rw [e1.out, e2.out]
    clear hv
    go_enter Tryd.func40, Tryd.ntmps40
    go_wp2_with (go_at_call 27; refine (refValid_any adr n cc P T _ hn HH.out).mono ?_; rintro e w1 h1; obtain ⟨rfl, g1⟩ := h1.gr; clear h1; rw [HV.out])
    go_ret2
    exact ⟨rfl, g1⟩

theorem AreLayers_any (adr : Option Addr) (n cc : Nat) (P T : Nat → Int) (a : Option Addr) (N c : Nat) (r : Nat → Nat × (Nat → Int)) (w : World) (hn : n ≤ 1000) (hw : WfH n P T) (hN : N ≤ 60) (h60 : ∀ i, i < N → (r i).1 ≤ 60) (hh : RdM w adr n P T) (hr : RdT w a N r) :
    Calls Tryd.prog 39 #[.slice adr n cc, .slice a N c] w (RetBE (areG n P T (layB n P T) N r) (errH n P T) w) := by
  have hmf : ∀ (fn : Fn) (first cap : Array Value) (w : World), (Instr.makeFunc fn first cap).run Tryd.prog w = .ok (.func fn first cap) w := fun _ _ _ _ => rfl
  have HW := Lib.hid hw
  have HH := Lib.hid hh
  have HR := Lib.hid hr
  have H6 := Lib.hid h60
  have cb := Lib.hid ((Gr.refl (w.alloc (.cells #[.slice a N c] 43))).fresh' (b := w.heap.size) (j := 0) (v := .slice a N c) rfl rfl).1
  have G0 := Lib.hid ((Gr.refl w).alloc (.cells #[.slice a N c] 43))
  clear hw hh hr h60
  cases hv : vH n P T with
  | true =>
    have HV := Lib.hid (vH_iff.1 hv)
    have e1 := Lib.hid (show areG n P T (layB n P T) N r = areB n (layB n P T) N r by unfold areG; rw [hv]; rfl)
    have e2 := Lib.hid (show errH n P T = 0 by unfold errH; rw [if_pos hv])
    rw [e1.out, e2.out]
    clear hv
    go_enter Tryd.func39, Tryd.ntmps39
    go_wp2_with (first
      | (go_at_call 66; refine (open_any adr n cc P T _ HV.out HW.out (HH.out.gr G0.out)).mono ?_; rintro e w1 ⟨p, b1, b2, rfl, O, g1, l1⟩; have c1 := g1.cell cb.out; have HO := Lib.hid O; clear O)
      | (go_at_call 82; refine (coverL_any HV.out.few a N c r _ hN H6.out HO.out (HR.out.gr (G0.out.trans g1))).mono ?_; rintro e w2 h2; obtain ⟨rfl, g2⟩ := h2.gr; clear h2)
      | go_in)
    go_ret2
    exact ⟨rfl, (G0.out.trans g1).trans g2⟩
  | false =>
    have HV := Lib.hid hv
    have e1 := Lib.hid (show areG n P T (layB n P T) N r = false by unfold areG; rw [hv]; rfl)
    have e2 := Lib.hid (show errH n P T = 20 by unfold errH; rw [hv]; rfl)
    rw [e1.out, e2.out]
    clear hv
    go_enter Tryd.func39, Tryd.ntmps39
    go_wp2_with (first
      | (go_at_call 66; refine (open_bad adr n cc P T _ hn HV.out HW.out (HH.out.gr G0.out)).mono ?_; rintro e w1 ⟨rfl, g1⟩)
      | go_in)
    go_ret2
    exact ⟨rfl, G0.out.trans g1⟩

end Go.Proofs.YthgbnjndljjbgaaDoor
