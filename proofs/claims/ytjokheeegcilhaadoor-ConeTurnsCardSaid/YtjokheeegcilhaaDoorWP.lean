/- Contracts of chapter 2: the reference's lengths and its longest chain. -/
import Derived.Test.YtjokheeegcilhaaDoorPE
import Derived.Test.YtjokheeegcilhaaDoorWF
namespace Go.Proofs.YtjokheeegcilhaaDoor
open Go.RowKit Go.Firn

/-- The lengths, in a row. -/
def RetLn (n : Nat) (P T : Nat → Int) (w : World) (e : Ending) (w' : World) : Prop :=
  ∃ bk, e = .returned (.slice (some ⟨bk, 0, none⟩) n n) ∧ RowG w' bk n (iV (ht n P T)) ∧ Gr w w'
/-- A row while one is made anew. -/
def atL (P T : Nat → Int) (f : Nat → Nat) (a b : Nat) (y : Nat) : Nat := if y = a then stL P T f a b else f y
theorem atL_same (P T : Nat → Int) (f : Nat → Nat) (a b : Nat) : atL P T f a b a = stL P T f a b := if_pos rfl
theorem atL_far (P T : Nat → Int) (f : Nat → Nat) {a b y : Nat} (h : y ≠ a) : atL P T f a b y = f y := if_neg h
theorem atL_put {w : World} {bk n a b : Nat} {P T : Nat → Int} {f : Nat → Nat} (h : RowG w bk n (iV (atL P T f a b))) {z : Int} (hz : z = (stL P T f a (b + 1) : Nat)) : RowG (w.setCell ⟨bk, a, none⟩ (.int .i64 z)) bk n (iV (atL P T f a (b + 1))) :=
  (h.put (j := a) _).congr fun i _ => by
    show (if i = a then _ else iV _ i) = iV _ i
    unfold iV
    by_cases e : i = a
    · subst e; rw [if_pos rfl, atL_same, hz]
    · rw [if_neg e, atL_far _ _ _ e, atL_far _ _ _ e]

set_option maxHeartbeats 2000000 in
set_option maxRecDepth 20000 in
theorem lengths_any (adr : Option Addr) (n c : Nat) (P T : Nat → Int) (w : World) (V : VH n P T) (hr : RdM w adr n P T) : Calls Tryd.prog 93 #[.slice adr n c] w (RetLn n P T w) := by
  have hfew := V.few
  have HV := Lib.hid V
  have HR := Lib.hid hr
  obtain ⟨cs, hcs, _, mk0⟩ := made Tryd.underlying23 Tryd.info3 rfl (by omega) n (by omega)
  clear V hr
  obtain ⟨bk, hbk⟩ : ∃ bk, bk = w.heap.size := ⟨_, rfl⟩
  have R0 := Lib.hid ((RowG.new (w := w) (e := 3) hbk.symm hcs).congr (V' := iV fun _ => 0) fun i _ => by rfl)
  have G0 := Lib.hid ((Gr.refl w).alloc (.cells cs 3))
  have B0 := Lib.hid (show w.heap.size ≤ bk by omega)
  go_enter Tryd.func93, Tryd.ntmps93
  go_wp2
  rw [← hbk]
  clear hbk mk0 hcs
  go_loopw [4] (fun s wr => ∃ (r : Nat) (f : Nat → Nat), r ≤ n ∧ s = .int .i64 r ∧ Hid (Lng n P T r 0 f) ∧ Hid (RowG wr bk n (iV f)) ∧ Hid (Gr w wr)) (fun s _ => n - (intOf s).toNat)
  case atStart => exact ⟨0, _, Nat.zero_le _, rfl, Lib.hid (Lng.start n P T), R0, G0⟩
  case round =>
    clear R0 G0
    obtain ⟨r, f0, hr, rfl, hL0, hR0, hG0⟩ := hrel
    by_cases hlt : r < n
    · have i1 : (r : Int) < (n : Int) := by omega
      go_wp2_with fail
      go_loopw [5] (fun s wx => ∃ (a : Nat) (f : Nat → Nat), a ≤ n ∧ s = .int .i64 a ∧ Hid (Lng n P T r a f) ∧ Hid (RowG wx bk n (iV f)) ∧ Hid (Gr w wx)) (fun s _ => n - (intOf s).toNat)
      case atStart => exact ⟨0, f0, Nat.zero_le _, rfl, hL0, hR0, hG0⟩
      case round =>
        clear hL0 hR0 hG0 f0
        obtain ⟨a, f, ha, rfl, hL, hR, hG⟩ := hrel
        by_cases hla : a < n
        · have i2 : (a : Int) < (n : Int) := by omega
          obtain ⟨d1, d2⟩ := hR.out a hla
          rw [iV_cell] at d1
          have R1 := Lib.hid (show RowG (wr.setCell ⟨bk, a, none⟩ (.int .i64 1)) bk n (iV (atL P T f a 0)) from (hR.out.put (j := a) _).congr fun i _ => by
            show (if i = a then _ else iV _ i) = iV _ i
            unfold iV
            by_cases e : i = a
            · subst e; rw [if_pos rfl, atL_same]; rfl
            · rw [if_neg e, atL_far _ _ _ e])
          have G1 := Lib.hid (hG.out.setAt (b := bk) (j := a) B0.out (.int .i64 1))
          have N1 := Lib.hid (hL.out.step hla)
          have TOP := Lib.hid (fun b (hb : b ≤ n) => Nat.le_trans (hL.out.top (a := a) hb) (ht_few hla))
          have BD := Lib.hid (fun b (hb : b < n) => Nat.le_trans (hL.out.bd b hb) (ht_few hb))
          go_wp2_with fail
          go_loopw [6] (fun s wy => ∃ b : Nat, b ≤ n ∧ s = .int .i64 b ∧ Hid (RowG wy bk n (iV (atL P T f a b))) ∧ Hid (Gr w wy)) (fun s _ => n - (intOf s).toNat)
          case atStart => exact ⟨0, Nat.zero_le _, rfl, R1, G1⟩
          case round =>
            clear R1 G1 d1 d2 hR hG hL
            obtain ⟨b, hb, rfl, hQ, hH⟩ := hrel
            by_cases hlb : b < n
            · have i3 : (b : Int) < (n : Int) := by omega
              have S := Lib.hid (before_b adr n c P T wr HV.out a b hla hlb (HR.out.gr hH.out))
              cases hbf : bf P T a b with
              | true =>
                have ne : b ≠ a := fun e => by rw [e, bf_self] at hbf; cases hbf
                have E := Lib.hid (stL_yes (P := P) (T := T) f hbf)
                have t1 := TOP.out b (by omega)
                have t2 := BD.out b hlb
                rw [hbf] at S
                clear hbf
                have PUT := Lib.hid (fun (w' : World) z h hz => atL_put (w := w') (bk := bk) (n := n) (a := a) (b := b) (P := P) (T := T) (f := f) (z := z) h hz)
                by_cases hm : stL P T f a b < f b + 1
                · have E2 := Lib.hid (show ((f b : Nat) : Int) + 1 = (stL P T f a (b + 1) : Nat) by rw [E.out]; omega)
                  have C1 := Lib.hid (fun w' (h : RowG w' bk n (iV (atL P T f a b))) => show w'.cell? ⟨bk, a, none⟩ = some (.int .i64 (stL P T f a b : Nat)) ∧ w'.frozen? ⟨bk, a, none⟩ = false from by have := h a hla; rwa [iV_cell, atL_same] at this)
                  have C2 := Lib.hid (fun w' (h : RowG w' bk n (iV (atL P T f a b))) => show w'.cell? ⟨bk, b, none⟩ = some (.int .i64 (f b : Nat)) from by have := (h b hlb).1; rwa [iV_cell, atL_far _ _ _ ne] at this)
                  generalize stL P T f a b = m at *
                  generalize f b = q at *
                  have l1 : (m : Int) < (q : Int) + 1 := by omega
                  have e1 : IntKind.i64.wrap ((q : Int) + 1) = (q : Int) + 1 := IntWalk.i64_in _ (by omega)
                  clear hm
                  go_upto_region 13 with (first
                    | (go_at_call 60; (with_reducible refine S.out.mono ?_); rintro e w2 ⟨rfl, g2⟩; have H3 := Lib.hid (hH.out.trans g2); have Q3 := Lib.hid (hQ.out.gr g2)))
                  obtain ⟨c1, f1⟩ := C1.out _ Q3.out
                  have c2 := C2.out _ Q3.out
                  have R2 := Lib.hid (PUT.out _ _ Q3.out E2.out).drew
                  have G2 := Lib.hid (H3.out.setAt (b := bk) (j := a) B0.out (.int .i64 ((q : Int) + 1))).drew
                  go_region
                  clear c1 f1 c2
                  go_wp2_with fail
                  go_roundw
                  case rel => exact ⟨b + 1, hlb, by go_num, R2, G2⟩
                  case measure => simp [intOf]; omega
                · have E2 := Lib.hid (show ((stL P T f a b : Nat) : Int) = (stL P T f a (b + 1) : Nat) by rw [E.out]; omega)
                  have C1 := Lib.hid (fun w' (h : RowG w' bk n (iV (atL P T f a b))) => show w'.cell? ⟨bk, a, none⟩ = some (.int .i64 (stL P T f a b : Nat)) ∧ w'.frozen? ⟨bk, a, none⟩ = false from by have := h a hla; rwa [iV_cell, atL_same] at this)
                  have C2 := Lib.hid (fun w' (h : RowG w' bk n (iV (atL P T f a b))) => show w'.cell? ⟨bk, b, none⟩ = some (.int .i64 (f b : Nat)) from by have := (h b hlb).1; rwa [iV_cell, atL_far _ _ _ ne] at this)
                  generalize stL P T f a b = m at *
                  generalize f b = q at *
                  have l1 : ¬ (m : Int) < (q : Int) + 1 := by omega
                  have e1 : IntKind.i64.wrap ((q : Int) + 1) = (q : Int) + 1 := IntWalk.i64_in _ (by omega)
                  clear hm
                  go_upto_region 13 with (first
                    | (go_at_call 60; (with_reducible refine S.out.mono ?_); rintro e w2 ⟨rfl, g2⟩; have H3 := Lib.hid (hH.out.trans g2); have Q3 := Lib.hid (hQ.out.gr g2)))
                  obtain ⟨c1, f1⟩ := C1.out _ Q3.out
                  have c2 := C2.out _ Q3.out
                  have R2 := Lib.hid (PUT.out _ _ Q3.out E2.out).drew
                  have G2 := Lib.hid (H3.out.setAt (b := bk) (j := a) B0.out (.int .i64 (m : Int))).drew
                  go_region
                  clear c1 f1 c2
                  go_wp2_with fail
                  go_roundw
                  case rel => exact ⟨b + 1, hlb, by go_num, R2, G2⟩
                  case measure => simp [intOf]; omega
              | false =>
                have E := Lib.hid (stL_no (P := P) (T := T) f hbf)
                rw [hbf] at S
                clear hbf
                have Q2 := Lib.hid (hQ.out.congr (V' := iV (atL P T f a (b + 1))) fun i _ => by unfold iV atL; rw [E.out])
                go_wp2_with (go_at_call 60; (with_reducible refine S.out.mono ?_); rintro e w2 ⟨rfl, g2⟩; have H3 := Lib.hid (hH.out.trans g2); have Q3 := Lib.hid (Q2.out.gr g2))
                go_roundw
                case rel => exact ⟨b + 1, hlb, by go_num, Q3, H3⟩
                case measure => simp [intOf]; omega
            · obtain rfl : b = n := by omega
              have i3 : ¬ (b : Int) < (b : Int) := by omega
              go_wp2_with fail
              go_roundw
              case rel => exact ⟨a + 1, _, hla, by go_num, N1, hQ, hH⟩
              case measure => simp [intOf]; omega
        · obtain rfl : a = n := by omega
          have i3 : ¬ (a : Int) < (a : Int) := by omega
          go_wp2_with fail
          go_roundw
          case rel => exact ⟨r + 1, f, hlt, by go_num, Lib.hid hL.out.next, hR, hG⟩
          case measure => simp [intOf]; omega
    · obtain rfl : r = n := by omega
      have i3 : ¬ (r : Int) < (r : Int) := by omega
      go_wp2_with fail
      go_ret
      exact ⟨bk, rfl, hR0.out.congr fun i hi => by unfold iV; rw [hL0.out.fin hi], hG0.out⟩

end Go.Proofs.YtjokheeegcilhaaDoor
