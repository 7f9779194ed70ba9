/- Contracts of chapter 2: IsLayer of the program and of the reference, and the sanity check. -/
import Derived.Test.YthgbnjndljjbgaaDoorW11
namespace Go.Proofs.YthgbnjndljjbgaaDoor
open Go.RowKit Go.Firn

/-- A bool and an error. -/
def RetBE (b : Bool) (err : Int) (w : World) (e : Ending) (w' : World) : Prop := e = .returned (.tuple #[.bool b, .int .i64 err]) ∧ Gr w w'
theorem RetQ.gr {b : Bool} {w w' : World} {e : Ending} (h : RetQ b w e w') : e = .returned (.bool b) ∧ Gr w w' := h.b

/-- What IsLayer gives. -/
def isLayG (n : Nat) (P T : Nat → Int) (m : Nat) (l : Nat → Int) : Bool := vH n P T && layB n P T m l

theorem IsLayer_any (adr : Option Addr) (n cc : Nat) (P T : Nat → Int) (a : Option Addr) (m c : Nat) (l : Nat → Int) (w : World) (hn : n ≤ 1000) (hw : WfH n P T) (hm : m ≤ 100) (hmc : m ≤ c) (hh : RdM w adr n P T) (hr : RdI w a m l) :
    Calls Tryd.prog 19 #[.slice adr n cc, .slice a m c] w (RetBE (isLayG n P T m l) (errH n P T) w) := by
  have hmf : ∀ (fn : Fn) (first cap : Array Value) (w : World), (Instr.makeFunc fn first cap).run Tryd.prog w = .ok (.func fn first cap) w := fun _ _ _ _ => rfl
  have HW := Lib.hid hw
  have HH := Lib.hid hh
  have HR := Lib.hid hr
  have cb := Lib.hid ((Gr.refl (w.alloc (.cells #[.slice a m c] 23))).fresh' (b := w.heap.size) (j := 0) (v := .slice a m c) rfl rfl).1
  have G0 := Lib.hid ((Gr.refl w).alloc (.cells #[.slice a m c] 23))
  clear hw hh hr
  cases hv : vH n P T with
  | true =>
    have HV := Lib.hid (vH_iff.1 hv)
    have e1 := Lib.hid (show isLayG n P T m l = layB n P T m l by unfold isLayG; rw [hv]; rfl)
    have e2 := Lib.hid (show errH n P T = 0 by unfold errH; rw [if_pos hv])
    rw [e1.out, e2.out]
    clear hv
    go_enter Tryd.func19, Tryd.ntmps19
    go_wp2_with (first
      | (go_at_call 66; refine (open_any adr n cc P T _ HV.out HW.out (HH.out.gr G0.out)).mono ?_; rintro e w1 ⟨p, b1, b2, rfl, O, g1, l1⟩; have c1 := g1.cell cb.out; have HO := Lib.hid O; clear O)
      | (go_at_call 64; refine (isLayer_any HV.out.few a m c l _ hm hmc HO.out (HR.out.gr (G0.out.trans g1))).mono ?_; rintro e w2 h2; obtain ⟨rfl, g2⟩ := h2.gr; clear h2)
      | go_in)
    go_ret2
    exact ⟨rfl, (G0.out.trans g1).trans g2⟩
  | false =>
    have HV := Lib.hid hv
    have e1 := Lib.hid (show isLayG n P T m l = false by unfold isLayG; rw [hv]; rfl)
    have e2 := Lib.hid (show errH n P T = 20 by unfold errH; rw [hv]; rfl)
    rw [e1.out, e2.out]
    clear hv
    go_enter Tryd.func19, Tryd.ntmps19
    go_wp2_with (first
      | (go_at_call 66; refine (open_bad adr n cc P T _ hn HV.out HW.out (HH.out.gr G0.out)).mono ?_; rintro e w1 ⟨rfl, g1⟩)
      | go_in)
    go_ret2
    exact ⟨rfl, G0.out.trans g1⟩

theorem refIsLayer_any (adr : Option Addr) (n cc : Nat) (P T : Nat → Int) (a : Option Addr) (m c : Nat) (l : Nat → Int) (w : World) (hn : n ≤ 1000) (hm : m ≤ 100) (hh : RdM w adr n P T) (hr : RdI w a m l) :
    Calls Tryd.prog 20 #[.slice adr n cc, .slice a m c] w (RetBE (isLayG n P T m l) (errH n P T) w) := by
  have HH := Lib.hid hh
  have HR := Lib.hid hr
  clear hh hr
  cases hv : vH n P T with
  | true =>
    have HV := Lib.hid (vH_iff.1 hv)
    have EV := Lib.hid hv
    have e1 := Lib.hid (show isLayG n P T m l = layB n P T m l by unfold isLayG; rw [hv]; rfl)
    have e2 := Lib.hid (show errH n P T = 0 by unfold errH; rw [if_pos hv])
    rw [e1.out, e2.out]
    clear hv
    go_enter Tryd.func20, Tryd.ntmps20
    go_wp2_with (first
      | (go_at_call 27; refine (refValid_any adr n cc P T _ hn HH.out).mono ?_; rintro e w1 h1; obtain ⟨rfl, g1⟩ := h1.gr; clear h1; rw [EV.out])
      | (go_at_call 65; refine (refisLayer_any adr n cc P T HV.out a m c l _ hm (HH.out.gr g1) (HR.out.gr g1)).mono ?_; rintro e w2 h2; obtain ⟨rfl, g2⟩ := h2.gr; clear h2))
    go_ret2
    exact ⟨rfl, g1.trans g2⟩
  | false =>
    have HV := Lib.hid hv
    have e1 := Lib.hid (show isLayG n P T m l = false by unfold isLayG; rw [hv]; rfl)
    have e2 := Lib.hid (show errH n P T = 20 by unfold errH; rw [hv]; rfl)
    rw [e1.out, e2.out]
    clear hv
    go_enter Tryd.func20, Tryd.ntmps20
    go_wp2_with (go_at_call 27; refine (refValid_any adr n cc P T _ hn HH.out).mono ?_; rintro e w1 h1; obtain ⟨rfl, g1⟩ := h1.gr; clear h1; rw [HV.out])
    go_ret2
    exact ⟨rfl, g1⟩

/-- The hits of the sanity check. -/
def sP (i : Nat) : Int := if i = 1 then 5 else 0
def sT (i : Nat) : Int := if i = 1 then 3 else if i = 2 then 10 else 0
theorem sane_wf : WfH 3 sP sT := by
  intro i hi
  match i, hi with
  | 0, _ => exact ⟨rfl, rfl⟩
  | 1, _ => exact ⟨rfl, rfl⟩
  | 2, _ => exact ⟨rfl, rfl⟩
theorem sane_lay : layG 3 sP sT = [0, 1] := by decide +kernel
theorem sane_err : errH 3 sP sT = 0 := by decide +kernel

theorem Sane_any (w : World) (hT : Tab w) : Calls Tryd.prog 16 #[] w (RetB true w) := by
  have g0 := (Gr.refl w).alloc (.cells #[.int .i64 0, .int .i64 0, .int .i64 5, .int .i64 3, .int .i64 0, .int .i64 10] 51)
  have R0 := Lib.hid (show RdM (w.alloc (.cells #[.int .i64 0, .int .i64 0, .int .i64 5, .int .i64 3, .int .i64 0, .int .i64 10] 51)) (some ⟨w.heap.size, 0, none⟩) 3 sP sT from by
    refine .inr ⟨_, 0, rfl, fun i hi => ?_⟩
    have f := fun j v h => ((Gr.refl (w.alloc (.cells #[.int .i64 0, .int .i64 0, .int .i64 5, .int .i64 3, .int .i64 0, .int .i64 10] 51))).fresh' (b := w.heap.size) (j := j) (v := v) rfl h).1
    match i, hi with
    | 0, _ => exact ⟨f 0 _ rfl, f 1 _ rfl⟩
    | 1, _ => exact ⟨f 2 _ rfl, f 3 _ rfl⟩
    | 2, _ => exact ⟨f 4 _ rfl, f 5 _ rfl⟩)
  have L0 := Lib.hid (fun a => Layer_any a 3 3 sP sT)
  rw [sane_lay, sane_err] at L0
  have G0 := Lib.hid g0
  clear g0
  go_enter Tryd.func16, Tryd.ntmps16
  go_wp2_with (first
    | (go_at_call 17; refine (L0.out _ _ (by omega) sane_wf R0.out (hT.gr G0.out)).mono ?_; rintro e w1 ⟨a1, c1, rfl, r1, r2, r3, r4⟩)
    | (go_at_call 21; refine (SameInts_any a1 _ 2 c1 2 2 (nf [0, 1]) (nf [0, 1]) _ (by omega) (by omega) (r3.gr ((Gr.refl _).alloc _)) (.inr ⟨_, 0, rfl, fun i hi => by have f := fun j v h => ((Gr.refl (w1.alloc (.cells #[.int .i64 0, .int .i64 1] 3))).fresh' (b := w1.heap.size) (j := j) (v := v) rfl h).1; match i, hi with | 0, _ => exact f 0 _ rfl | 1, _ => exact f 1 _ rfl⟩)).mono ?_; rintro e w2 ⟨rfl, g2⟩))
  go_ret
  exact ⟨congrArg (fun b => Ending.returned (.bool b)) (eqB_true.2 ⟨rfl, fun _ _ => rfl⟩), ((G0.out.trans r4).alloc _).trans g2⟩

end Go.Proofs.YthgbnjndljjbgaaDoor
