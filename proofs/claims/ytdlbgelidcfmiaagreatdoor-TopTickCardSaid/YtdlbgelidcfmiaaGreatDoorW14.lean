/- Contracts of chapter 1: told, At and Speed of the program. -/
import Derived.Test.YtdlbgelidcfmiaaGreatDoorW13
namespace Go.Proofs.YtdlbgelidcfmiaaGreatDoor
open Go.RowKit Go.Firn

/-- What told needs of a closure: a ratio of the line, in any later world. -/
def Tells (F : Nat) (cap : Array Value) (a b c d N D : Int) (w : World) : Prop :=
  ∀ wz, Gr w wz → Calls Tryz.prog F (#[.agg #[.int .i64 a, .int .i64 b, .int .i64 c, .int .i64 d]] ++ cap) wz (RetR N D wz)

set_option maxRecDepth 100000 in
theorem told_noclock (F : Nat) (cap : Array Value) (a : Option Addr) (n c : Nat) (L T : Nat → Int) (x : Int) (w : World) (hn : n ≤ 9223372036854775807) (hr : RdM w a n L T) (hv : vK n L T = false) :
    Calls Tryz.prog 32 #[.slice a n c, .int .i64 x, .func (.func F) #[] cap] w (RetRE 0 0 11 w) := by
  have Hv := Lib.hid hv
  clear hv
  have g0 : Gr w (w.alloc (.cells #[.int .i64 0, .int .i64 0] 37)) := (Gr.refl w).alloc _
  go_enter Tryz.func32, Tryz.ntmps32
  go_wp2_with fail
  refine (ValidClock_any a n c L T _ hn (hr.gr g0)).mono ?_
  rintro e w1 ⟨rfl, g⟩
  rw [Hv.out]
  obtain ⟨s0, f0⟩ := g.fresh' (b := w.heap.size) (j := 0) (by simp) rfl
  obtain ⟨s1, f1⟩ := g.fresh' (b := w.heap.size) (j := 1) (by simp) rfl
  have hsz : w.heap.size < w1.heap.size := g.freshSize
  have G : Gr w w1 := g0.trans g
  clear g
  go_wp2_with fail
  refine bodyPost_ret (v := .tuple #[.agg #[.int .i64 0, .int .i64 0], .int .i64 11]) (by simp [results, Tryz.results32, go_sem, *]) rfl ⟨rfl, ?_⟩
  exact ((G.setAt (by omega) _).setAt (by omega) _)

set_option maxRecDepth 100000 in
theorem told_norange (F : Nat) (cap : Array Value) (a : Option Addr) (n c : Nat) (L T : Nat → Int) (x : Int) (w : World) (hn : n ≤ 9223372036854775807) (hr : RdM w a n L T) (hv : vK n L T = true) (hx : btw 0 x 100000 = false) :
    Calls Tryz.prog 32 #[.slice a n c, .int .i64 x, .func (.func F) #[] cap] w (RetRE 0 0 2 w) := by
  have Hv := Lib.hid hv
  have Hx := Lib.hid hx
  clear hv hx
  have g0 : Gr w (w.alloc (.cells #[.int .i64 0, .int .i64 0] 37)) := (Gr.refl w).alloc _
  go_enter Tryz.func32, Tryz.ntmps32
  go_wp2_with fail
  refine (ValidClock_any a n c L T _ hn (hr.gr g0)).mono ?_
  rintro e w1 ⟨rfl, g⟩
  rw [Hv.out]
  obtain ⟨s0, f0⟩ := g.fresh' (b := w.heap.size) (j := 0) (by simp) rfl
  obtain ⟨s1, f1⟩ := g.fresh' (b := w.heap.size) (j := 1) (by simp) rfl
  have hsz : w.heap.size < w1.heap.size := g.freshSize
  have G : Gr w w1 := g0.trans g
  clear g
  go_wp2_with fail
  refine (isLocal_any x _).mono ?_
  rintro e w2 ⟨rfl, rfl⟩
  rw [Hx.out]
  go_wp2_with fail
  refine bodyPost_ret (v := .tuple #[.agg #[.int .i64 0, .int .i64 0], .int .i64 2]) (by simp [results, Tryz.results32, go_sem, *]) rfl ⟨rfl, ?_⟩
  exact ((G.setAt (by omega) _).setAt (by omega) _)

set_option maxRecDepth 100000 in
theorem told_ok (F : Nat) (cap : Array Value) (hcf : ∀ (args : Array Value) (wz : World), (callFunc F args).run Tryz.prog wz = .ok (.enter F args) wz)
    (a : Option Addr) (n c : Nat) (L T : Nat → Int) (x N D : Int) (w : World) (hn : n ≤ 9223372036854775807) (hr : RdM w a n L T) (hv : vK n L T = true) (hx : btw 0 x 100000 = true)
    (ht : Hid (Tells F cap (L (ix (pA L x) n)) (T (ix (pA L x) n)) (L (ix (pA L x) n + 1)) (T (ix (pA L x) n + 1)) N D w)) :
    Calls Tryz.prog 32 #[.slice a n c, .int .i64 x, .func (.func F) #[] cap] w (RetRE N D 0 w) := by
  have Hv := Lib.hid hv
  have Hx := Lib.hid hx
  have h2 := (vK_true.1 hv).1
  clear hv hx
  have g0 : Gr w (w.alloc (.cells #[.int .i64 0, .int .i64 0] 37)) := (Gr.refl w).alloc _
  go_enter Tryz.func32, Tryz.ntmps32
  go_wp2_with fail
  refine (ValidClock_any a n c L T _ hn (hr.gr g0)).mono ?_
  rintro e w1 ⟨rfl, g⟩
  rw [Hv.out]
  go_wp2_with fail
  refine (isLocal_any x _).mono ?_
  rintro e w2 ⟨rfl, rfl⟩
  rw [Hx.out]
  go_wp2_with fail
  refine (at_any a n c L T x _ hn h2 (hr.gr (g0.trans g))).mono ?_
  rintro e w3 ⟨rfl, g3⟩
  replace g := g.trans g3
  clear g3
  go_wp2_with fail
  refine (ht.out _ (g0.trans g)).mono ?_
  rintro e w4 ⟨rfl, g3⟩
  replace g := g.trans g3
  clear g3
  obtain ⟨s0, f0⟩ := g.fresh' (b := w.heap.size) (j := 0) (by simp) rfl
  obtain ⟨s1, f1⟩ := g.fresh' (b := w.heap.size) (j := 1) (by simp) rfl
  have hsz : w.heap.size < w4.heap.size := g.freshSize
  have G : Gr w w4 := g0.trans g
  clear g
  go_wp2_with fail
  refine bodyPost_ret (v := .tuple #[.agg #[.int .i64 N, .int .i64 D], .int .i64 0]) (by simp [results, Tryz.results32, go_sem, *]) rfl ⟨rfl, ?_⟩
  exact ((G.setAt (by omega) _).setAt (by omega) _)

theorem cf63 (args : Array Value) (wz : World) : (callFunc 33 args).run Tryz.prog wz = .ok (.enter 33 args) wz := by kernel_rfl
theorem cf70 (args : Array Value) (wz : World) : (callFunc 28 args).run Tryz.prog wz = .ok (.enter 28 args) wz := by kernel_rfl

theorem At1_any (a b c d x : Int) (p : Addr) (w : World) (hp : w.cell? p = some (.int .i64 x)) (ha : 0 ≤ a ∧ a ≤ 100000) (hb : 0 ≤ b ∧ b ≤ 100000) (hc : 0 ≤ c ∧ c ≤ 100000) (hd : 0 ≤ d ∧ d ≤ 100000) (hac : a < c) (hx : -200000 ≤ x ∧ x ≤ 200000) :
    Calls Tryz.prog 33 #[.agg #[.int .i64 a, .int .i64 b, .int .i64 c, .int .i64 d], .pointer (some p)] w (RetR (rN (tN a b c d x) (c - a)) (rD (tN a b c d x) (c - a)) w) := by
  generalize hN : rN (tN a b c d x) (c - a) = N
  generalize hD : rD (tN a b c d x) (c - a) = D
  have HN := Lib.hid hN
  have HD := Lib.hid hD
  clear hN hD
  have g0 : Gr w ((w.alloc (.cells #[.int .i64 a, .int .i64 b, .int .i64 c, .int .i64 d] 57)).alloc (.cells #[.int .i64 0, .int .i64 0] 37)) := ((Gr.refl w).alloc _).alloc _
  have hp' := g0.cell hp
  go_enter Tryz.func33, Tryz.ntmps33
  go_wp2_with fail
  refine (time_any a b c d x _ ha hb hc hd hac hx).mono ?_
  rintro e w1 ⟨rfl, g⟩
  rw [HN.out, HD.out]
  obtain ⟨s0, f0⟩ := g.fresh' (b := w.heap.size + 1) (j := 0) (by simp) rfl
  obtain ⟨s1, f1⟩ := g.fresh' (b := w.heap.size + 1) (j := 1) (by simp) rfl
  have hsz : w.heap.size + 1 < w1.heap.size := by have := g.freshSize; simp at this; omega
  have G : Gr w w1 := g0.trans g
  clear g hp hp'
  go_wp2_with fail
  refine bodyPost_ret (v := .agg #[.int .i64 N, .int .i64 D]) (by simp [results, Tryz.results33, go_sem, *]) rfl ⟨rfl, ?_⟩
  exact ((G.setAt (by omega) _).setAt (by omega) _)

/-- What At and Speed of either say: the ratio where the clock and the local time are valid, or the error. -/
def okE (v r : Bool) : Int := if v then (if r then 0 else 2) else 11
def okV (v r : Bool) (x : Int) : Int := if v && r then x else 0

/-- The time of the clock at x. -/
def AN (n : Nat) (L T : Nat → Int) (x : Int) : Int := rN (aN L T (ix (pA L x) n) x) (aD L (ix (pA L x) n))
def AD (n : Nat) (L T : Nat → Int) (x : Int) : Int := rD (aN L T (ix (pA L x) n) x) (aD L (ix (pA L x) n))
/-- The speed of the clock at x. -/
def SN (n : Nat) (L T : Nat → Int) (x : Int) : Int := rN (aD T (ix (pA L x) n)) (aD L (ix (pA L x) n))
def SD (n : Nat) (L T : Nat → Int) (x : Int) : Int := rD (aD T (ix (pA L x) n)) (aD L (ix (pA L x) n))

theorem ix_lt {n : Nat} (h : 2 ≤ n) (p : Nat → Bool) : ix p n + 1 < n := by have := ix_le p n; omega

set_option maxRecDepth 100000 in
theorem At_any (a : Option Addr) (n c : Nat) (L T : Nat → Int) (x : Int) (w : World) (hn : n ≤ 9223372036854775807) (hr : RdM w a n L T) :
    Calls Tryz.prog 14 #[.slice a n c, .int .i64 x] w (RetRE (okV (vK n L T) (btw 0 x 100000) (AN n L T x)) (okV (vK n L T) (btw 0 x 100000) (AD n L T x)) (okE (vK n L T) (btw 0 x 100000)) w) := by
  generalize hN : okV (vK n L T) (btw 0 x 100000) (AN n L T x) = N
  generalize hD : okV (vK n L T) (btw 0 x 100000) (AD n L T x) = D
  generalize hE : okE (vK n L T) (btw 0 x 100000) = E
  have g0 : Gr w ((w.alloc (.cells #[.int .i64 x] 3)).alloc (.cells #[.int .i64 0, .int .i64 0] 37)) := ((Gr.refl w).alloc _).alloc _
  have K : Hid (∀ w1, Gr ((w.alloc (.cells #[.int .i64 x] 3)).alloc (.cells #[.int .i64 0, .int .i64 0] 37)) w1 → Calls Tryz.prog 32 #[.slice a n c, .int .i64 x, .func (.func 33) #[] #[.pointer (some ⟨w.heap.size, 0, none⟩)]] w1 (RetRE N D E w1)) := by
    intro w1 g
    cases hv : vK n L T with
    | false =>
      rw [← hN, ← hD, ← hE, hv]
      exact told_noclock 33 _ a n c L T x w1 hn (hr.gr (g0.trans g)) hv
    | true =>
      cases hx : btw 0 x 100000 with
      | false =>
        rw [← hN, ← hD, ← hE, hv, hx]
        exact told_norange 33 _ a n c L T x w1 hn (hr.gr (g0.trans g)) hv hx
      | true =>
        rw [← hN, ← hD, ← hE, hv, hx]
        obtain ⟨h2, _, hb, hs⟩ := vK_true.1 hv
        have hi := ix_lt h2 (pA L x)
        have hx' := btw_true.1 hx
        refine told_ok 33 _ cf63 a n c L T x _ _ w1 hn (hr.gr (g0.trans g)) hv hx (fun wz gz => ?_)
        have b1 := hb _ hi
        have b0 := hb (ix (pA L x) n) (by omega)
        exact At1_any _ _ _ _ x _ wz (gz.cell (g.cell (((Gr.refl _).alloc _).cell (cell_new1 w _ _)))) ⟨b0.1, b0.2.1⟩ ⟨b0.2.2.1, b0.2.2.2⟩ ⟨b1.1, b1.2.1⟩ ⟨b1.2.2.1, b1.2.2.2⟩ (hs _ hi).1 (by omega)
  clear hN hD hE
  go_enter Tryz.func14, Tryz.ntmps14
  go_wp2_with fail
  refine (K.out _ (Gr.refl _)).mono ?_
  rintro e w1 ⟨rfl, g⟩
  obtain ⟨s0, f0⟩ := g.fresh' (b := w.heap.size + 1) (j := 0) (by simp) rfl
  obtain ⟨s1, f1⟩ := g.fresh' (b := w.heap.size + 1) (j := 1) (by simp) rfl
  have hsz : w.heap.size + 1 < w1.heap.size := by have := g.freshSize; simp at this; omega
  have G : Gr w w1 := g0.trans g
  clear g
  go_wp2_with fail
  refine bodyPost_ret (v := .tuple #[.agg #[.int .i64 N, .int .i64 D], .int .i64 E]) (by simp [results, Tryz.results14, go_sem, *]) rfl ⟨rfl, ?_⟩
  exact ((G.setAt (by omega) _).setAt (by omega) _)

end Go.Proofs.YtdlbgelidcfmiaaGreatDoor
