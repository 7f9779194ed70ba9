/- Contracts of chapter 2: the longest layer of the program. -/
import Derived.Test.YtjokheeegcilhaaDoorW5
import Derived.Laws.EntriesVeiled
namespace Go.Proofs.YtjokheeegcilhaaDoor
open Go.RowKit Go.Firn

theorem layL_16 {n : Nat} (hn : n ≤ 14) (P T : Nat → Int) : els (layS n P T).testBit 16 = layL n P T :=
  els_more (fun i hi => bit_ge (srch_lt _ n 0 0 0 (by omega) (Nat.two_pow_pos n) (Nat.two_pow_pos n)) hi) (by omega)

theorem layer_any {n p b1 b2 : Nat} {P T : Nat → Int} (hpos : 1 ≤ n) (hn : n ≤ 14) (w : World) (hT : Tab w) (O : OrdB w p b1 b2 n (pastM n P T) (futM n P T)) :
    Calls Tryd.prog 59 #[.pointer (some ⟨p, 0, none⟩)] w (RetL (layL n P T) w) := by
  have hmf : ∀ (fn : Fn) (first cap : Array Value) (w : World), (Instr.makeFunc fn first cap).run Tryd.prog w = .ok (.func fn first cap) w := fun _ _ _ _ => rfl
  have l0 : p < w.heap.size := World.block_lt_of_cell? w _ O.c0
  have l1 : b1 < w.heap.size := World.block_lt_of_cell? w _ (O.r1 0 hpos).1
  have l2 : b2 < w.heap.size := World.block_lt_of_cell? w _ (O.r2 0 hpos).1
  have HO := Lib.hid O
  clear O
  have y3 := Lib.hid ((Gr.refl (((w.alloc (.cells #[.pointer (some ⟨p, 0, none⟩)] 68)).alloc (.cells #[.int .u16 0] 76)).alloc (.cells #[tryV w.heap.size (w.heap.size + 1) (w.heap.size + 1 + 1)] 103))).fresh' (b := w.heap.size + 1 + 1) (j := 0) (v := tryV w.heap.size (w.heap.size + 1) (w.heap.size + 1 + 1)) (by simp) rfl).1
  have z3 := Lib.hid (((Gr.refl ((w.alloc (.cells #[.pointer (some ⟨p, 0, none⟩)] 68)).alloc (.cells #[.int .u16 0] 76))).alloc (.cells #[tryV w.heap.size (w.heap.size + 1) (w.heap.size + 1 + 1)] 103)).fresh' (b := w.heap.size + 1) (j := 0) (v := .int .u16 (0 : Nat)) (by simp) rfl)
  have x3 := Lib.hid ((((Gr.refl (w.alloc (.cells #[.pointer (some ⟨p, 0, none⟩)] 68))).alloc (.cells #[.int .u16 0] 76)).alloc (.cells #[tryV w.heap.size (w.heap.size + 1) (w.heap.size + 1 + 1)] 103)).fresh' (b := w.heap.size) (j := 0) (v := .pointer (some ⟨p, 0, none⟩)) (by simp) rfl).1
  have G4 := Lib.hid ((((Gr.refl w).alloc (.cells #[.pointer (some ⟨p, 0, none⟩)] 68)).alloc (.cells #[.int .u16 0] 76)).alloc (.cells #[tryV w.heap.size (w.heap.size + 1) (w.heap.size + 1 + 1)] 103))
  have O4 := Lib.hid (HO.out.gr G4.out)
  have hf := Lib.hid (show ∀ i, i < n → pastM n P T i < 16384 ∧ futM n P T i < 16384 from fun i _ => ⟨pastM_lt hn i, futM_lt hn i⟩)
  have hne := Lib.hid (show p ≠ w.heap.size + 1 ∧ b1 ≠ w.heap.size + 1 ∧ b2 ≠ w.heap.size + 1 ∧ w.heap.size ≠ w.heap.size + 1 ∧ w.heap.size + 1 + 1 ≠ w.heap.size + 1 by omega)
  have hl := Lib.hid (show layS n P T < 65536 by have := srch_lt (fun i => pastM n P T i ||| futM n P T i) n 0 0 0 (by omega) (Nat.two_pow_pos n) (Nat.two_pow_pos n); have := pow14 hn; unfold layS; omega)
  clear l0 l1 l2
  go_enter Tryd.func59, Tryd.ntmps59
  go_wp2_with (first
    | (go_at_call 99; (refine (try_any hn hf.out hne.out n 0 0 0 _ (by omega) (Nat.two_pow_pos n) (Nat.two_pow_pos n) O4.out x3.out y3.out z3.out.1 z3.out.2).mono ?_; rintro e w2 ⟨rfl, g2, c2, f2⟩; have G5 := Lib.hid (g2.gr G4.out (by omega))))
    | (go_at_call 70; refine (list_any (layS n P T) _ hl.out (hT.gr G5.out)).mono ?_; rintro e w3 ⟨a, c, rfl, r1, r2, r3, r4⟩))
  go_ret
  rw [layL_16 hn] at r1 r3 ⊢
  exact ⟨a, c, rfl, r1, r2, r3, G5.out.trans r4⟩

/-- A list of small numbers and an error. -/
def RetLE (l : List Nat) (err : Int) (w : World) (e : Ending) (w' : World) : Prop :=
  ∃ a c, e = .returned (.tuple #[.slice a l.length c, .int .i64 err]) ∧ l.length ≤ c ∧ c ≤ maxLen ∧ RdI w' a l.length (nf l) ∧ Gr w w'

theorem open_bad (adr : Option Addr) (n c : Nat) (P T : Nat → Int) (w : World) (hn : n ≤ 1000) (hv : vH n P T = false) (hw : WfH n P T) (hr : RdM w adr n P T) :
    Calls Tryd.prog 66 #[.slice adr n c] w fun e w' => e = .returned (.tuple #[.pointer none, .int .i64 20]) ∧ Gr w w' := by
  have HV := Lib.hid hv
  have HW := Lib.hid hw
  have HR := Lib.hid hr
  clear hv hw hr
  go_enter Tryd.func66, Tryd.ntmps66
  go_wp2_with (go_at_call 26; refine (Valid_any adr n c P T _ hn HW.out HR.out).mono ?_; rintro e w1 ⟨rfl, g1⟩; rw [HV.out])
  go_ret2
  exact ⟨rfl, g1⟩

/-- What Layer gives. -/
def layG (n : Nat) (P T : Nat → Int) : List Nat := if vH n P T = true then layL n P T else []
def errH (n : Nat) (P T : Nat → Int) : Int := if vH n P T = true then 0 else 20

theorem Layer_any (adr : Option Addr) (n c : Nat) (P T : Nat → Int) (w : World) (hn : n ≤ 1000) (hw : WfH n P T) (hr : RdM w adr n P T) (hT : Tab w) :
    Calls Tryd.prog 17 #[.slice adr n c] w (RetLE (layG n P T) (errH n P T) w) := by
  have HW := Lib.hid hw
  have HR := Lib.hid hr
  clear hw hr
  by_cases hv : vH n P T = true
  · have HV := Lib.hid (vH_iff.1 hv)
    have e1 := Lib.hid (show layG n P T = layL n P T by unfold layG; rw [if_pos hv])
    have e2 := Lib.hid (show errH n P T = 0 by unfold errH; rw [if_pos hv])
    rw [e1.out, e2.out]
    clear hv
    go_enter Tryd.func17, Tryd.ntmps17
    go_wp2_with (first
      | (go_at_call 66; refine (open_any adr n c P T _ HV.out HW.out HR.out).mono ?_; rintro e w1 ⟨p, b1, b2, rfl, O, g1, l1⟩)
      | (go_at_call 59; refine (layer_any HV.out.pos HV.out.few _ (hT.gr g1) O).mono ?_; rintro e w2 ⟨a, c, rfl, r1, r2, r3, r4⟩)
      | go_in)
    go_ret2
    exact ⟨a, _, rfl, r1, r2, r3, g1.trans r4⟩
  · have hv' : vH n P T = false := by simpa using hv
    have HV := Lib.hid hv'
    have e1 := Lib.hid (show layG n P T = [] by unfold layG; rw [if_neg hv])
    have e2 := Lib.hid (show errH n P T = 20 by unfold errH; rw [if_neg hv])
    rw [e1.out, e2.out]
    clear hv hv'
    go_enter Tryd.func17, Tryd.ntmps17
    go_wp2_with (first
      | (go_at_call 66; refine (open_bad adr n c P T _ hn HV.out HW.out HR.out).mono ?_; rintro e w1 ⟨rfl, g1⟩)
      | go_in)
    go_ret2
    exact ⟨none, 0, rfl, Nat.le_refl _, by unfold maxLen; omega, .inl rfl, g1⟩

theorem Long_any (adr : Option Addr) (n c : Nat) (w : World) (hn : n ≤ 9223372036854775807) :
    Calls Tryd.prog 15 #[.slice adr n c] w fun e w' => e = .returned (.bool (decide (40 < n))) ∧ w = w' := by
  go_enter Tryd.func15, Tryd.ntmps15
  go_wp2
  go_ret
  simp
  omega

end Go.Proofs.YtjokheeegcilhaaDoor
