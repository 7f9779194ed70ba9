/- Contracts of chapter 2: the heights. -/
import Derived.Test.YtjokheeegcilhaaDoorW32
import Derived.Test.YtjokheeegcilhaaDoorP16
namespace Go.Proofs.YtjokheeegcilhaaDoor
open Go.RowKit Go.Firn

/-- The function literal of the heights, with what it captured. -/
def htV (bs bx bt : Nat) : Value := .func (.func 115) #[] #[.pointer (some ⟨bs, 0, none⟩), .pointer (some ⟨bx, 0, none⟩), .pointer (some ⟨bt, 0, none⟩)]
/-- What the search of a height finds around it. -/
structure HE (w : World) (p b1 b2 bo bs bx bt n : Nat) (P T : Nat → Int) : Prop where
  O : OrdB w p b1 b2 n (pastM n P T) (futM n P T)
  tb : Tab w
  cs : w.cell? ⟨bs, 0, none⟩ = some (.slice (some ⟨bo, 0, none⟩) n n)
  cx : w.cell? ⟨bx, 0, none⟩ = some (.pointer (some ⟨p, 0, none⟩))
  ct : w.cell? ⟨bt, 0, none⟩ = some (htV bs bx bt)
theorem HE.wx {w w' : World} {p b1 b2 bo bs bx bt n : Nat} {P T : Nat → Int} {X : Nat → Prop} (h : HE w p b1 b2 bo bs bx bt n P T) (g : Wx X w w') (hp : ¬X p) (h1 : ¬X b1) (h2 : ¬X b2) (hs : ¬X bs) (hx : ¬X bx) (ht : ¬X bt) (h0 : ¬X 0) : HE w' p b1 b2 bo bs bx bt n P T :=
  ⟨h.O.wx g hp h1 h2, fun j hj => g.cell (h.tb j hj) h0, g.cell h.cs hs, g.cell h.cx hx, g.cell h.ct ht⟩
theorem HE.gr {w w' : World} {p b1 b2 bo bs bx bt n : Nat} {P T : Nat → Int} (h : HE w p b1 b2 bo bs bx bt n P T) (g : Gr w w') : HE w' p b1 b2 bo bs bx bt n P T :=
  ⟨h.O.gr g, h.tb.gr g, g.cell h.cs, g.cell h.cx, g.cell h.ct⟩

/-- What was found of the heights. -/
def Memo (n : Nat) (P T : Nat → Int) (v : Nat → Nat) : Prop := ∀ k, k < n → v k = 0 ∨ v k = ht n P T k
def Kept (n : Nat) (P T : Nat → Int) (v v' : Nat → Nat) : Prop := ∀ k, k < n → v k = ht n P T k → v' k = ht n P T k
/-- What the search of a height gives. -/
def HtR (n : Nat) (P T : Nat → Int) (bo : Nat) (v : Nat → Nat) (i : Nat) (w : World) (e : Ending) (w' : World) : Prop :=
  e = .returned (.int .i64 (ht n P T i : Nat)) ∧ Wx (fun k => k = bo) w w' ∧ ∃ v', RowG w' bo n (iV v') ∧ Memo n P T v' ∧ Kept n P T v v' ∧ v' i = ht n P T i

theorem ifmax (m q : Nat) : (if m < q then ((q : Nat) : Int) else ((m : Nat) : Int)) = ((max m q : Nat) : Int) := by split <;> omega

set_option maxHeartbeats 2000000 in
set_option maxRecDepth 20000 in
theorem height_any {n p b1 b2 bo bs bx bt : Nat} {P T : Nat → Int} (hn : n ≤ 14) (hX : p ≠ bo ∧ b1 ≠ bo ∧ b2 ≠ bo ∧ bs ≠ bo ∧ bx ≠ bo ∧ bt ≠ bo ∧ 0 ≠ bo) :
    ∀ (d i : Nat) (v : Nat → Nat) (w : World), later n T i < d → i < n → HE w p b1 b2 bo bs bx bt n P T → RowG w bo n (iV v) → Memo n P T v →
      Calls Tryd.prog 115 #[.int .i64 i, .pointer (some ⟨bs, 0, none⟩), .pointer (some ⟨bx, 0, none⟩), .pointer (some ⟨bt, 0, none⟩)] w (HtR n P T bo v i w) := by
  intro d
  induction d with
  | zero => intro i v w hd; omega
  | succ d ih =>
    intro i v w hd hi E R M
    have IH := Lib.hid ih
    have HEE := Lib.hid E
    have HR := Lib.hid R
    have HM := Lib.hid M
    have i1 : (i : Int) < (n : Int) := by omega
    have HB := Lib.hid (ht_n (n := n) (P := P) (T := T) (i := i))
    have cs := E.cs
    obtain ⟨d1, d2⟩ := R i hi
    rw [iV_cell] at d1
    by_cases hz : v i = 0
    · have cx := E.cx
      have o1 := E.O.c1
      have r2 := (E.O.r2 i hi).1
      have f2 := futM_lt (n := n) (P := P) (T := T) hn i
      have C := Lib.hid (fun w' hT => list_f (futM n P T i) w' (by omega) hT)
      rw [futL_16 hn] at C
      have HT := Lib.hid (ht_eq (n := n) (P := P) (T := T) i)
      have LN := Lib.hid (fun q hq => futL_at (n := n) (P := P) (T := T) (i := i) (q := q) hq)
      have L16 := Lib.hid (show (futL n P T i).length ≤ n by unfold futL; rw [els_length]; exact cnt_le _ _)
      generalize futL n P T i = L at C HT LN L16
      rw [hz] at d1
      clear ih E R M f2
      go_enter Tryd.func115, Tryd.ntmps115
      go_wp2_with (go_at_call 70; (with_reducible refine (C.out _ HEE.out.tb).mono ?_); rintro e w1 ⟨a, cl, rfl, q1, q2, r3, g1, r5⟩; have R3 := Lib.hid r3; have R5 := Lib.hid r5; have G1 := Lib.hid g1; clear r3 r5 g1 q1 q2)
      go_loopw [6, 23] (fun sm si wr => ∃ j v', j ≤ L.length ∧ sm = .int .i64 (mx (fun q => ht n P T (L.getD q 0)) j : Nat) ∧ si = .int .i64 (j : Nat) ∧ Hid (RowG wr bo n (iV v')) ∧ Hid (Memo n P T v') ∧ Hid (Kept n P T v v') ∧ Hid (Wx (fun k => k = bo) w1 wr)) (fun _ si _ => L.length - (intOf si).toNat)
      case atStart => exact ⟨0, v, Nat.zero_le _, rfl, rfl, HR.out.gr G1.out, HM.out, fun _ _ h => h, Wx.refl _ _⟩
      case round =>
        obtain ⟨j, v', hj, rfl, rfl, hR, hM, hK, hW⟩ := hrel
        have EE := Lib.hid ((HEE.out.gr G1.out).wx hW.out hX.1 hX.2.1 hX.2.2.1 hX.2.2.2.1 hX.2.2.2.2.1 hX.2.2.2.2.2.1 hX.2.2.2.2.2.2)
        by_cases hlt : j < L.length
        · obtain ⟨b, o, rfl, q2, q3⟩ := R5.out.resolve_left (by omega)
          have nb : ¬ b = bo := fun h => by have := World.block_lt_of_cell? w _ (HR.out i hi).1; simp at this; omega
          obtain ⟨b', o', e9, hc⟩ := (R3.out.wx hW.out nb).at hlt
          simp at e9
          obtain ⟨rfl, rfl⟩ := e9
          have cj := hc j hlt
          obtain ⟨hx, hbx⟩ := LN.out j hlt
          have MX := Lib.hid (show mx (fun q => ht n P T (L.getD q 0)) (j + 1) = max (mx (fun q => ht n P T (L.getD q 0)) j) (ht n P T (L.getD j 0)) from rfl)
          unfold nf at cj
          generalize L.getD j 0 = x at cj hx hbx MX
          have C2 := Lib.hid (IH.out x v' wr (by have := later_lt hx (bf_time hbx); omega) hx EE.out hR.out hM.out)
          have ct := EE.out.ct
          have j1 : (j : Int) < (L.length : Int) := by omega
          have l16 := L16.out
          unfold htV at ct
          generalize mx (fun q => ht n P T (L.getD q 0)) j = m at MX
          clear hc hbx
          go_wp2_with (go_at_call 115; (with_reducible refine C2.out.mono ?_); rintro e w3 ⟨rfl, gx, v3, k1, k2, k3, k4⟩; have W3 := Lib.hid (hW.out.trans gx); have R4 := Lib.hid k1; have M4 := Lib.hid k2; have K4 := Lib.hid (show Kept n P T v v3 from fun k hk h => k3 k hk (hK.out k hk h)); clear gx k1 k2 k3 k4)
          go_roundw
          case rel => exact ⟨j + 1, v3, hlt, by rw [MX.out, ifmax], by go_num, R4, M4, K4, W3⟩
          case measure => simp [intOf]; omega
        · obtain rfl : j = L.length := by omega
          have ht' := HT.out
          have hb' := HB.out
          generalize mx (fun q => ht n P T (L.getD q 0)) L.length = m at ht'
          have e1 : IntKind.i64.wrap ((m : Int) + 1) = ((ht n P T i : Nat) : Int) := by rw [ht', IntWalk.i64_in _ (by omega)]; omega
          obtain ⟨c1, c2⟩ := hR.out i hi
          rw [iV_cell] at c1
          have cs' := EE.out.cs
          have R4 := Lib.hid ((hR.out.put (j := i) (.int .i64 (ht n P T i : Nat))).congr (V' := iV fun k => if k = i then ht n P T i else v' k) fun k _ => by
            show (if k = i then _ else iV v' k) = _
            by_cases e : k = i
            · rw [if_pos e, iV_cell, if_pos e]
            · rw [if_neg e, iV_cell, iV_cell, if_neg e])
          have M4 := Lib.hid (show Memo n P T fun k => if k = i then ht n P T i else v' k from fun k hk => by
            by_cases e : k = i
            · subst e; simp
            · simp only [if_neg e]; exact hM.out k hk)
          have K4 := Lib.hid (show Kept n P T v fun k => if k = i then ht n P T i else v' k from fun k hk h => by
            by_cases e : k = i
            · subst e; simp
            · simp only [if_neg e]; exact hK.out k hk h)
          have W4 := Lib.hid ((((Wx.of_gr G1.out).trans hW.out)).set (bb := bo) rfl i (.int .i64 (ht n P T i : Nat)))
          have E4 := Lib.hid (EE.out.wx ((Wx.refl (fun k => k = bo) wr).set (bb := bo) rfl i (.int .i64 (ht n P T i : Nat))) hX.1 hX.2.1 hX.2.2.1 hX.2.2.2.1 hX.2.2.2.2.1 hX.2.2.2.2.2.1 hX.2.2.2.2.2.2)
          have cs4 := E4.out.cs
          have c4 := (R4.out i hi).1
          rw [iV_cell, if_pos rfl] at c4
          clear HT HB ht' hb' d1 d2 hz hR hM hK hW
          have FIN := Lib.hid (show ∀ w', Wx (fun k => k = bo) w w' → RowG w' bo n (iV fun k => if k = i then ht n P T i else v' k) → HtR n P T bo v i w (.returned (.int .i64 (ht n P T i : Nat))) w' from
            fun w' g r => ⟨rfl, g, _, r, M4.out, K4.out, if_pos rfl⟩)
          clear M4 K4
          generalize ht n P T i = q at *
          go_wp2_with fail
          go_ret
          exact FIN.out _ W4.out R4.out
    · have e1 : v i = ht n P T i := (M i hi).resolve_left hz
      rw [e1] at d1
      have p1 := ht_pos (n := n) (P := P) (T := T) i
      have RR := Lib.hid (show HtR n P T bo v i w (.returned (.int .i64 (ht n P T i : Nat))) w from ⟨rfl, Wx.refl _ _, v, R, M, fun _ _ h => h, e1⟩)
      have z1 : (((ht n P T i : Nat) : Int) == 0) = false := by simp; omega
      clear ih E R M hz e1
      generalize ht n P T i = q at d1 p1 z1 RR
      go_enter Tryd.func115, Tryd.ntmps115
      go_wp2
      go_ret
      exact RR.out

end Go.Proofs.YtjokheeegcilhaaDoor
