/- Contracts of chapter 2: the reference's longest chain. -/
import Derived.Test.YtjokheeegcilhaaDoorWP
namespace Go.Proofs.YtjokheeegcilhaaDoor
open Go.RowKit Go.Firn

/-- What the reference asks of the next hit: it is behind the last one, if there is one. -/
def Frm (n : Nat) (P T : Nat → Int) (k : Nat) (fr : Nat → Bool) : Prop := (k = 0 ∧ ∀ i, fr i = true) ∨ ∃ j x, k = j + 1 ∧ x < n ∧ nf (chnL n P T) j = ((x : Nat) : Int) ∧ fr = bf P T x

set_option maxHeartbeats 4000000 in
set_option maxRecDepth 20000 in
theorem refChain_ok (adr : Option Addr) (n c : Nat) (P T : Nat → Int) (w : World) (V : VH n P T) (hr : RdM w adr n P T) :
    Calls Tryd.prog 54 #[.slice adr n c] w (RetIs (chnL n P T).length (nf (chnL n P T)) 0 w) := by
  have hfew := V.few
  have HV := Lib.hid V
  have HR := Lib.hid hr
  have C := Lib.hid ((refValid_any adr n c P T w (by omega) hr).mono fun _ _ h => h.b)
  rw [vH_iff.2 V] at C
  have SS := Lib.hid (ChS.start (P := P) (T := T) V.pos)
  have TL := Lib.hid (show topH n P T ≤ 15 by have := topH_le (n := n) (P := P) (T := T); omega)
  have HL := Lib.hid (chnL_good (P := P) (T := T) V.pos).1
  have HF := Lib.hid (fun i (hi : i < n) => show ht n P T i ≤ 14 by have := ht_few (P := P) (T := T) hi; omega)
  have TM := Lib.hid (fun k => show mx (ht n P T) (k + 1) = max (mx (ht n P T) k) (ht n P T k) from rfl)
  have TN := Lib.hid (show mx (ht n P T) n = topH n P T from rfl)
  have M14 := Lib.hid (fun k (hk : k ≤ n) => show mx (ht n P T) k ≤ 14 from mx_bd fun j hj => by have := ht_few (P := P) (T := T) (show j < n by omega); omega)
  clear V hr
  go_enter Tryd.func54, Tryd.ntmps54
  go_wp2_with (first
    | (go_at_call 27; (with_reducible refine C.out.mono ?_); rintro e w1 ⟨rfl, g1⟩; have G1 := Lib.hid g1; clear g1)
    | (go_at_call 93; (with_reducible refine (lengths_any adr n c P T _ HV.out (HR.out.gr G1.out)).mono ?_); rintro e w2 ⟨bk, rfl, q1, q2⟩; have R1 := Lib.hid q1; have G2 := Lib.hid (G1.out.trans q2); clear q1 q2))
  go_loopw [5, 6] (fun sm si wr => ∃ k : Nat, k ≤ n ∧ sm = .int .i64 (mx (ht n P T) k : Nat) ∧ si = .int .i64 k ∧ Hid (Gr w2 wr)) (fun _ si _ => n - (intOf si).toNat)
  case atStart => exact ⟨0, Nat.zero_le _, rfl, rfl, Lib.hid (Gr.refl _)⟩
  case round =>
    obtain ⟨k, hk, rfl, rfl, hgw⟩ := hrel
    by_cases hlt : k < n
    · have i1 : (k : Int) < (n : Int) := by omega
      have ck := (R1.out.gr hgw.out k hlt).1
      rw [iV_cell] at ck
      have E := Lib.hid (show (if ((mx (ht n P T) k : Nat) : Int) < ((ht n P T k : Nat) : Int) then ((ht n P T k : Nat) : Int) else ((mx (ht n P T) k : Nat) : Int)) = (mx (ht n P T) (k + 1) : Nat) by rw [TM.out]; split <;> omega)
      generalize ht n P T k = q at ck E
      generalize mx (ht n P T) k = m at *
      go_wp2_with fail
      go_roundw
      case rel => exact ⟨k + 1, hlt, by rw [← E.out]; simp only [Int.ofNat_lt], by go_num, hgw⟩
      case measure => simp [intOf]; omega
    · obtain rfl : k = n := by omega
      have i1 : ¬ (k : Int) < (k : Int) := by omega
      rw [TN.out]
      clear TM M14
      go_wp2_with fail
      go_loopw [5, 7] (fun sw so wx => ∃ (j : Nat) (fr : Nat → Bool), sw = .int .i64 ((topH k P T - j : Nat) : Int) ∧ Hid (ChS k P T j fr) ∧ Hid (Frm k P T j fr) ∧ OwnI w2 3 wx so j (nf (chnL k P T))) (fun sw _ _ => (intOf sw).toNat)
      case atStart => exact ⟨0, fun _ => true, by rw [Nat.sub_zero], SS, Lib.hid (.inl ⟨rfl, fun _ => rfl⟩), OwnI.nil' hgw.out 3 _⟩
      case round =>
        obtain ⟨j, fr, rfl, hch, hfm, hown⟩ := hrel
        have jle := hch.out.1
        by_cases hlt : j < topH k P T
        · obtain ⟨w0, hw0⟩ : ∃ w0, topH k P T - j = w0 + 1 := ⟨topH k P T - j - 1, by omega⟩
          have EX := Lib.hid (hch.out.some hlt)
          have ST := Lib.hid (fun a ha hf => hch.out.first (a := a) hlt ha hf)
          have KK := Lib.hid (show j < 1000000000 by have := TL.out; omega)
          have w00 : w0 ≤ 15 := by have := TL.out; omega
          have g1 : (0 : Int) < (w0 : Int) + 1 := by omega
          have EW := Lib.hid (show ((topH k P T - (j + 1) : Nat) : Int) = (w0 : Int) by omega)
          rw [hw0, show ((w0 + 1 : Nat) : Int) = (w0 : Int) + 1 by omega]
          rw [hw0] at EX ST
          obtain ⟨ao, co, rfl, h1, h2, h3⟩ := hown.rd
          have H3 := Lib.hid h3
          have OW := Lib.hid hown
          have j15 : j ≤ 15 := by have := TL.out; omega
          clear hlt jle hw0 h3 hown
          go_wp2_with fail
          go_loopw [7, 8] (fun so si wy => ∃ a : Nat, a ≤ k ∧ so = .slice ao j co ∧ si = .int .i64 a ∧ Hid (Gr wr wy) ∧ Hid (∀ q, q < a → fr q = true → ¬ ht k P T q = w0 + 1)) (fun _ si _ => k - (intOf si).toNat)
          case atStart => exact ⟨0, Nat.zero_le _, rfl, rfl, Lib.hid (Gr.refl _), Lib.hid fun q hq => by omega⟩
          case round =>
            obtain ⟨a, ha, rfl, rfl, hgx, hno⟩ := hrel
            have hal : a < k := by
              refine Nat.lt_of_le_of_ne ha fun e => ?_
              obtain ⟨i, i1, i2, i3⟩ := EX.out
              exact hno.out i (by omega) i2 i3
            have i2 : (a : Int) < (k : Int) := by omega
            have OW2 := Lib.hid (OW.out.gr hgx.out)
            have ca := (R1.out.gr OW2.out.2 a hal).1
            rw [iV_cell] at ca
            have STa := Lib.hid (fun hf hp => ST.out a hal hf hp hno.out)
            have NEXT := Lib.hid (show ¬ (fr a = true ∧ ht k P T a = w0 + 1) → ∀ q, q < a + 1 → fr q = true → ¬ ht k P T q = w0 + 1 from fun h q hq hf => by
              by_cases e : q = a
              · subst e; exact fun x => h ⟨hf, x⟩
              · exact hno.out q (by omega) hf)
            have hfa := HF.out a hal
            by_cases hq : ht k P T a = w0 + 1
            · rw [hq] at ca
              have z1 : (((w0 + 1 : Nat) : Int) == (w0 : Int) + 1) = true := by simp
              have z2 : (((w0 : Nat) : Int) + 1 == (w0 : Int) + 1) = true := by simp
              have STq := Lib.hid (fun hf => STa.out hf hq)
              have NXq := Lib.hid (fun (hf : ¬ fr a = true) => NEXT.out fun h => hf h.1)
              clear hq STa NEXT hno hfa
              rcases hfm.out with ⟨e0, hf⟩ | ⟨p, x, e0, hx, ex, ef⟩
              · subst e0
                have SQ := Lib.hid (STq.out (hf a))
                have EF := Lib.hid (show nf (chnL k P T) 0 = ((a : Nat) : Int) from by unfold nf; rw [SQ.out.1])
                have FM := Lib.hid (show Frm k P T (0 + 1) (bf P T a) from .inr ⟨0, a, rfl, hal, EF.out, rfl⟩)
                go_wp2_with (at_builtin; go_must (refine wpList_app_int rfl _ _ 23 3 rfl Tryd.underlying23 Tryd.info3 _ _ _ rfl (OW2.out.alloc _) _ _ rfl (cell_new1 _ _ _) EF.out KK.out ?_); intro v1 w4 hown1 _)
                go_roundw
                case rel => exact ⟨0 + 1, bf P T a, by rw [EW.out], Lib.hid SQ.out.2, FM, hown1⟩
                case measure => simp [intOf]
              · subst e0
                have cx := (H3.out.gr hgx.out).at (show p < p + 1 by omega)
                obtain ⟨bo, oo, e9, hc⟩ := cx
                subst e9
                have cp := hc p (by omega)
                rw [ex] at cp
                have S := Lib.hid (fun w' g => before_b adr k c P T w' HV.out x a hx hal (HR.out.gr (G2.out.trans (OW2.out.2.trans g))))
                have p1 : ((p + 1 : Nat) : Int) - 1 = (p : Int) := by omega
                have p2 : IntKind.i64.wrap (((p + 1 : Nat) : Int) - 1) = (p : Int) := by rw [p1]; exact IntWalk.i64_in _ (by omega)
                have p3 : (((p + 1 : Nat) : Int) == 0) = false := by simp; omega
                have p4 : (p : Int) < ((p + 1 : Nat) : Int) := by omega
                rw [ef] at STq NXq
                clear hc p1
                cases hb : bf P T x a with
                | true =>
                  have SQ := Lib.hid (STq.out hb)
                  have EF := Lib.hid (show nf (chnL k P T) (p + 1) = ((a : Nat) : Int) from by unfold nf; rw [SQ.out.1])
                  have FM := Lib.hid (show Frm k P T (p + 1 + 1) (bf P T a) from .inr ⟨p + 1, a, rfl, hal, EF.out, rfl⟩)
                  rw [hb] at S
                  clear hb
                  go_wp2_with (first
                    | (go_at_call 60; (with_reducible refine (S.out _ (Gr.refl _)).mono ?_); rintro e w3 ⟨rfl, g3⟩; have OW3 := Lib.hid (OW2.out.gr g3))
                    | (at_builtin; go_must (refine wpList_app_int rfl _ _ 23 3 rfl Tryd.underlying23 Tryd.info3 _ _ _ rfl (OW3.out.alloc _) _ _ rfl (cell_new1 _ _ _) EF.out KK.out ?_); intro v1 w4 hown1 _))
                  go_roundw
                  case rel => exact ⟨p + 1 + 1, bf P T a, by rw [EW.out], Lib.hid SQ.out.2, FM, hown1⟩
                  case measure => simp [intOf]
                | false =>
                  have NX := Lib.hid (NXq.out (by simp [hb]))
                  rw [hb] at S
                  clear hb
                  go_wp2_with (go_at_call 60; (with_reducible refine (S.out _ (Gr.refl _)).mono ?_); rintro e w3 ⟨rfl, g3⟩; have HG3 := Lib.hid (hgx.out.trans g3))
                  go_roundw
                  case rel => exact ⟨a + 1, hal, rfl, by go_num, HG3, by rw [ef]; exact NX⟩
                  case measure => simp [intOf]; omega
            · have z1 : (((ht k P T a : Nat) : Int) == (w0 : Int) + 1) = false := by simp; omega
              have NX := Lib.hid (NEXT.out fun h => hq h.2)
              generalize ht k P T a = q at ca z1
              clear hq STa NEXT
              go_wp2_with fail
              go_roundw
              case rel => exact ⟨a + 1, hal, rfl, by go_num, hgx, NX⟩
              case measure => simp [intOf]; omega
        · have e : j = topH k P T := by omega
          rw [e, Nat.sub_self]
          rw [e, ← HL.out] at hown
          go_wp2_with fail
          go_ret2
          obtain ⟨a, c, rfl, h1, h2, h3⟩ := hown.rd
          exact ⟨a, c, rfl, h1, h2, h3, G2.out.trans hown.2⟩

end Go.Proofs.YtjokheeegcilhaaDoor
