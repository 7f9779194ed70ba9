/- Contracts of chapter 7: which odds are valid, of the program and of the reference; Long. -/
import Derived.Test.YtohcnicadbpbbaaDoorW3
namespace Go.Proofs.YtohcnicadbpbbaaDoor
open Go.RowKit Go.Firn

/-- A box that holds odds. -/
def BoxO (w : World) (b : Nat) (s t : Value) : Prop := w.cell? ⟨b, 0, none⟩ = some s ∧ w.cell? ⟨b, 1, none⟩ = some t
theorem BoxO.gr {w w' : World} {b : Nat} {s t : Value} (h : BoxO w b s t) (g : Gr w w') : BoxO w' b s t := ⟨g.cell h.1, g.cell h.2⟩
theorem BoxO.new {w : World} {b e : Nat} {s t : Value} (hb : w.heap.size = b) : BoxO (w.alloc (.cells #[s, t] e)) b s t :=
  ⟨((Gr.refl (w.alloc (.cells #[s, t] e))).fresh' (b := b) (j := 0) (v := s) hb rfl).1, ((Gr.refl (w.alloc (.cells #[s, t] e))).fresh' (b := b) (j := 1) (v := t) hb rfl).1⟩

/-- Which odds are valid. -/
def vO (n m : Nat) (f g : Nat → Int) : Bool := vW n f && vW m g && decide ((n : Int) = m)
structure VO (n m : Nat) (f g : Nat → Int) : Prop where
  noise : VW n f
  signal : VW n g
  same : n = m
theorem vO_iff {n m : Nat} {f g : Nat → Int} : vO n m f g = true ↔ VO n m f g := by
  unfold vO
  simp only [Bool.and_eq_true, decide_eq_true_eq, vW_iff]
  constructor
  · rintro ⟨⟨a, b⟩, c⟩
    obtain rfl : n = m := by omega
    exact ⟨a, b, rfl⟩
  · rintro ⟨a, b, rfl⟩
    exact ⟨⟨a, b⟩, rfl⟩

set_option maxHeartbeats 1000000 in
theorem Valid_any (a a2 : Option Addr) (n c m d : Nat) (f g : Nat → Int) (w : World) (hn : n ≤ 1000) (hm : m ≤ 1000) (hr : RdI w a n f) (hs : RdI w a2 m g) :
    Calls Tryd.prog 52 #[.agg #[.slice a n c, .slice a2 m d]] w (RetB (vO n m f g) w) := by
  have G0 := Lib.hid ((Gr.refl w).alloc (.cells #[.slice a n c, .slice a2 m d] 24))
  obtain ⟨p1, p2⟩ := BoxO.new (w := w) (e := 24) (s := .slice a n c) (t := .slice a2 m d) rfl
  have BX := Lib.hid (BoxO.new (w := w) (e := 24) (s := .slice a n c) (t := .slice a2 m d) rfl)
  have C1 := Lib.hid (weighed_any a n c f _ hn (hr.gr G0.out))
  have C2 := Lib.hid (fun w' (k : Gr (w.alloc (.cells #[.slice a n c, .slice a2 m d] 24)) w') => weighed_any a2 m d g w' hm ((hs.gr G0.out).gr k))
  clear hr hs
  cases h1 : vW n f with
  | false =>
    have E := Lib.hid (show vO n m f g = false by unfold vO; rw [h1]; rfl)
    rw [h1] at C1
    clear h1
    go_enter Tryd.func52, Tryd.ntmps52
    go_wp2_with (go_at_call 79; (with_reducible refine C1.out.mono ?_); rintro e w1 ⟨rfl, g1⟩)
    go_ret
    rw [E.out]
    exact ⟨rfl, G0.out.trans g1⟩
  | true =>
    rw [h1] at C1
    cases h2 : vW m g with
    | false =>
      have E := Lib.hid (show vO n m f g = false by unfold vO; rw [h1, h2]; rfl)
      rw [h2] at C2
      clear h1 h2
      go_enter Tryd.func52, Tryd.ntmps52
      go_wp2_with (first
        | (go_at_call 79; (with_reducible refine C1.out.mono ?_); rintro e w1 ⟨rfl, g1⟩; obtain ⟨q1, q2⟩ := BX.out.gr g1; have G1 := Lib.hid g1; clear g1 p1 p2)
        | (go_at_call 79; (with_reducible refine (C2.out _ G1.out).mono ?_); rintro e w2 ⟨rfl, g2⟩))
      go_ret
      rw [E.out]
      exact ⟨rfl, (G0.out.trans G1.out).trans g2⟩
    | true =>
      have E := Lib.hid (show vO n m f g = decide ((n : Int) = m) by unfold vO; rw [h1, h2]; rfl)
      rw [h2] at C2
      clear h1 h2
      go_enter Tryd.func52, Tryd.ntmps52
      go_wp2_with (first
        | (go_at_call 79; (with_reducible refine C1.out.mono ?_); rintro e w1 ⟨rfl, g1⟩; obtain ⟨q1, q2⟩ := BX.out.gr g1; have G1 := Lib.hid g1; clear g1 p1 p2)
        | (go_at_call 79; (with_reducible refine (C2.out _ G1.out).mono ?_); rintro e w2 ⟨rfl, g2⟩; obtain ⟨r1, r2⟩ := (BX.out.gr G1.out).gr g2; have G2 := Lib.hid g2; clear g2 q1 q2))
      go_ret
      rw [E.out]
      exact ⟨rfl, (G0.out.trans G1.out).trans G2.out⟩

theorem vO_rev {n m : Nat} {f g : Nat → Int} : vO n m f g = (decide ((n : Int) = m) && (vW n f && vW m g)) := by unfold vO; rw [Bool.and_comm]

set_option maxHeartbeats 1000000 in
theorem refValid_any (a a2 : Option Addr) (n c m d : Nat) (f g : Nat → Int) (w : World) (hn : n ≤ 1000) (hm : m ≤ 1000) (hr : RdI w a n f) (hs : RdI w a2 m g) :
    Calls Tryd.prog 17 #[.agg #[.slice a n c, .slice a2 m d]] w (RetB (vO n m f g) w) := by
  have G0 := Lib.hid ((Gr.refl w).alloc (.cells #[.slice a n c, .slice a2 m d] 24))
  obtain ⟨p1, p2⟩ := BoxO.new (w := w) (e := 24) (s := .slice a n c) (t := .slice a2 m d) rfl
  have BX := Lib.hid (BoxO.new (w := w) (e := 24) (s := .slice a n c) (t := .slice a2 m d) rfl)
  have C1 := Lib.hid (areWeights_any a n c f _ hn (hr.gr G0.out))
  have C2 := Lib.hid (fun w' (k : Gr (w.alloc (.cells #[.slice a n c, .slice a2 m d] 24)) w') => areWeights_any a2 m d g w' hm ((hs.gr G0.out).gr k))
  clear hr hs
  cases h0 : decide ((n : Int) = m) with
  | false =>
    have E := Lib.hid (show vO n m f g = false by rw [vO_rev, h0]; rfl)
    have h0' := of_decide_eq_false h0
    clear h0
    go_enter Tryd.func17, Tryd.ntmps17
    go_wp2_with fail
    go_ret
    rw [E.out]
    exact ⟨rfl, G0.out⟩
  | true =>
    have h0' := of_decide_eq_true h0
    cases h1 : vW n f with
    | false =>
      have E := Lib.hid (show vO n m f g = false by unfold vO; rw [h1]; rfl)
      rw [h1] at C1
      clear h1 h0
      go_enter Tryd.func17, Tryd.ntmps17
      go_wp2_with (go_at_call 48; (with_reducible refine C1.out.mono ?_); rintro e w1 ⟨rfl, g1⟩)
      go_ret
      rw [E.out]
      exact ⟨rfl, G0.out.trans g1⟩
    | true =>
      have E := Lib.hid (show vO n m f g = vW m g by rw [vO_rev, h1, h0]; rfl)
      rw [h1] at C1
      clear h1 h0
      go_enter Tryd.func17, Tryd.ntmps17
      go_wp2_with (first
        | (go_at_call 48; (with_reducible refine C1.out.mono ?_); rintro e w1 ⟨rfl, g1⟩; obtain ⟨q1, q2⟩ := BX.out.gr g1; have G1 := Lib.hid g1; clear g1 p1 p2)
        | (go_at_call 48; (with_reducible refine (C2.out _ G1.out).mono ?_); rintro e w2 ⟨rfl, g2⟩))
      go_ret
      rw [E.out]
      exact ⟨rfl, (G0.out.trans G1.out).trans g2⟩

/-- Long odds. -/
def lgO (n m : Nat) : Bool := decide ((60 : Int) < n) || decide ((60 : Int) < m)
theorem lgO_false {n m : Nat} : lgO n m = false ↔ n ≤ 60 ∧ m ≤ 60 := by
  unfold lgO
  rw [Bool.or_eq_false_iff, decide_eq_false_iff_not, decide_eq_false_iff_not]
  omega
theorem Long_any (a a2 : Option Addr) (n c m d : Nat) (w : World) :
    Calls Tryd.prog 8 #[.agg #[.slice a n c, .slice a2 m d]] w (RetB (lgO n m) w) := by
  have G0 := Lib.hid ((Gr.refl w).alloc (.cells #[.slice a n c, .slice a2 m d] 24))
  obtain ⟨p1, p2⟩ := BoxO.new (w := w) (e := 24) (s := .slice a n c) (t := .slice a2 m d) rfl
  by_cases h : (60 : Int) < n
  · have E := Lib.hid (show lgO n m = true by unfold lgO; rw [decide_eq_true h]; rfl)
    go_enter Tryd.func8, Tryd.ntmps8
    go_wp2_with fail
    go_ret
    rw [E.out]
    exact ⟨rfl, G0.out⟩
  · have E := Lib.hid (show lgO n m = decide ((60 : Int) < m) by unfold lgO; rw [decide_eq_false h]; rfl)
    go_enter Tryd.func8, Tryd.ntmps8
    go_wp2_with fail
    go_ret
    rw [E.out]
    exact ⟨rfl, G0.out⟩

end Go.Proofs.YtohcnicadbpbbaaDoor
