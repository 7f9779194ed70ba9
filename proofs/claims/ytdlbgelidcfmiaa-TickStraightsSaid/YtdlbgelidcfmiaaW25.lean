/- Contracts of chapter 1: Speeds, of the program and of the reference. -/
import Derived.Test.YtdlbgelidcfmiaaW24
import Derived.Deep.DeepCutAuto
namespace Go.Proofs.Ytdlbgelidcfmiaa
open Go.RowKit Go.Firn

set_option maxRecDepth 100000 in
theorem refSpeeds_no (a : Option Addr) (n c : Nat) (L T : Nat → Int) (w : World) (hn : n ≤ 9223372036854775807) (hr : RdM w a n L T) (hv : vK n L T = false) :
    Calls Try.prog 45 #[.slice a n c] w (RetRRE 0 0 0 0 11 w) := by
  have Hv := Lib.hid hv
  clear hv
  have g0 : Gr w ((w.alloc (.cells #[.int .i64 0, .int .i64 0] 37)).alloc (.cells #[.int .i64 0, .int .i64 0] 37)) := ((Gr.refl w).alloc _).alloc _
  have B2 : Hid (Box2 ((w.alloc (.cells #[.int .i64 0, .int .i64 0] 37)).alloc (.cells #[.int .i64 0, .int .i64 0] 37)) w.heap.size 0 0) := Lib.hid ((Box2.new rfl).gr ((Gr.refl _).alloc _))
  have B3 : Hid (Box2 ((w.alloc (.cells #[.int .i64 0, .int .i64 0] 37)).alloc (.cells #[.int .i64 0, .int .i64 0] 37)) (w.heap.size + 1) 0 0) := Lib.hid (Box2.new (by simp))
  go_enter Try.func45, Try.ntmps45
  go_wp2_with fail
  refine (refValidClock_any _ n c L T _ hn (hr.gr g0)).mono ?_
  rintro e w1 ⟨rfl, gz⟩
  rw [Hv.out]
  clear hr
  have B2b := B2.out.gr gz
  have B3b := B3.out.gr gz
  have G := g0.trans gz
  clear gz g0 B2 B3
  obtain ⟨s0, s1, f0, f1⟩ := id B2b
  obtain ⟨s2, s3, f2, f3⟩ := id B3b
  have hz : w.heap.size + 1 < w1.heap.size := World.block_lt_of_cell? w1 _ s2
  have F2 := Lib.hid ((B2b.put (x' := 0) (y' := 0)).far (b' := w.heap.size + 1) (by omega) (.int .i64 0) (.int .i64 0))
  have F3 := Lib.hid ((B3b.far (b' := w.heap.size) (by omega) (.int .i64 0) (.int .i64 0)).put (x' := 0) (y' := 0))
  go_wp2_with fail
  obtain ⟨t0, t1, _, _⟩ := F2.out
  obtain ⟨t2, t3, _, _⟩ := F3.out
  clear s0 s1 s2 s3
  refine bodyPost_ret (v := .tuple #[.agg #[.int .i64 0, .int .i64 0], .agg #[.int .i64 0, .int .i64 0], .int .i64 11]) (by simp [results, Try.results45, go_sem, t0, t1, t2, t3]) rfl ⟨rfl, ?_⟩
  exact (((G.setAt (by omega) _).setAt (by omega) _).setAt (by omega) _).setAt (by omega) _

set_option maxRecDepth 100000 in
set_option maxHeartbeats 2000000 in
theorem refSpeeds_ok (a : Option Addr) (n c : Nat) (L T : Nat → Int) (w : World) (hn : n ≤ 9223372036854775807) (hr : RdM w a n L T) (hv : vK n L T = true) :
    Calls Try.prog 45 #[.slice a n c] w (RetRRE (sF L T (mnI (sF L T) (sG L T) (n - 2))) (sG L T (mnI (sF L T) (sG L T) (n - 2))) (sF L T (mxI (sF L T) (sG L T) (n - 2))) (sG L T (mxI (sF L T) (sG L T) (n - 2))) 0 w) := by
  obtain ⟨hn2, hn30, -, -⟩ := vK_true.1 hv
  have Hv := Lib.hid hv
  have SP := Lib.hid (fun (k : Nat) (h1 : 1 ≤ k) (hk : k < n) wz => refspeed_at hv h1 hk wz)
  have BD : Hid (∀ i, i < n - 1 → (0 < sF L T i ∧ sF L T i ≤ 100000) ∧ (0 < sG L T i ∧ sG L T i ≤ 100000)) := Lib.hid fun i hi => sFG_bd hv (i := i) (by omega)
  clear hv
  generalize sF L T = f at *
  generalize sG L T = g at *
  have g0 : Gr w ((w.alloc (.cells #[.int .i64 0, .int .i64 0] 37)).alloc (.cells #[.int .i64 0, .int .i64 0] 37)) := ((Gr.refl w).alloc _).alloc _
  have B2 : Hid (Box2 ((w.alloc (.cells #[.int .i64 0, .int .i64 0] 37)).alloc (.cells #[.int .i64 0, .int .i64 0] 37)) w.heap.size 0 0) := Lib.hid ((Box2.new rfl).gr ((Gr.refl _).alloc _))
  have B3 : Hid (Box2 ((w.alloc (.cells #[.int .i64 0, .int .i64 0] 37)).alloc (.cells #[.int .i64 0, .int .i64 0] 37)) (w.heap.size + 1) 0 0) := Lib.hid (Box2.new (by simp))
  obtain ⟨b, o, rfl, hc⟩ := hr.at (k := 0) (by omega)
  have Hc := Lib.hid hc
  clear hc
  go_enter Try.func45, Try.ntmps45
  go_wp2_with fail
  refine (refValidClock_any _ n c L T _ hn (hr.gr g0)).mono ?_
  rintro e w1 ⟨rfl, gz⟩
  rw [Hv.out]
  clear hr
  have B2' := Lib.hid (B2.out.gr gz)
  have B3' := Lib.hid (B3.out.gr gz)
  have g1 := g0.trans gz
  clear gz g0 B2 B3
  go_wp2_with fail
  go_loopw [5, 6] (fun i _ wr => ∃ (k : Nat) (p q r s : Int), 1 ≤ k ∧ k ≤ n ∧ i = .int .i64 k ∧ Hid (Box2 wr w.heap.size p q) ∧ Hid (Box2 wr (w.heap.size + 1) r s) ∧ Hid (k ≠ 1 → (p = f (mnI f g (k - 2)) ∧ q = g (mnI f g (k - 2))) ∧ (r = f (mxI f g (k - 2)) ∧ s = g (mxI f g (k - 2)))) ∧ Gr w wr) (fun i _ _ => n - (intOf i).toNat)
  case atStart => exact ⟨1, 0, 0, 0, 0, by omega, by omega, rfl, B2', B3', fun h => absurd rfl h, g1⟩
  case round =>
    obtain ⟨k, p, q, r, s, hk1, hk, rfl, B2, B3, HE, hg⟩ := hrel
    by_cases hlt : k < n
    · have i1 : (k : Int) < n := by omega
      have i2 : (0 : Int) ≤ (k : Int) - 1 := by omega
      have i22 : (1 : Int) ≤ (k : Int) := by omega
      have i3 : (k : Int) - 1 < n := by omega
      have i4 : IntKind.i64.wrap ((k : Int) - 1) = (k : Int) - 1 := IntWalk.i64_in _ (by omega)
      have i5 : ((k : Int) - 1).toNat = k - 1 := by omega
      have hk2 : k - 1 < n := by omega
      have c1 := hg.cell (Hc.out k hlt).1
      have c2 := hg.cell (Hc.out k hlt).2
      have c3 := hg.cell (Hc.out (k - 1) hk2).1
      have c4 := hg.cell (Hc.out (k - 1) hk2).2
      have gal := Lib.hid ((Gr.refl wr).alloc (.cells #[.int .i64 0, .int .i64 0] 37))
      have BA : Hid (Box2 (wr.alloc (.cells #[.int .i64 0, .int .i64 0] 37)) wr.heap.size 0 0) := Lib.hid (Box2.new rfl)
      have n0 := World.new_ne wr _ c1
      go_upto_region 6 with (fail)
      go_cut [6] from 12 to 43 (fun s6 wx => ∃ b6 : Nat, s6 = .pointer (some ⟨b6, 0, none⟩) ∧ Hid (Box2 wx b6 (f (k - 1)) (g (k - 1))) ∧ Hid (wr.heap.size ≤ b6) ∧ Gr wr wx)
      case first =>
        go_region_held3 (fun w' => w'.cell? ⟨b, o + k * 2, none⟩ = some (.int .i64 (L k)) ∧ w'.cell? ⟨b, o + k * 2 + 1, none⟩ = some (.int .i64 (T k)) ∧ w'.cell? ⟨b, o + (k - 1) * 2, none⟩ = some (.int .i64 (L (k - 1))) ∧ w'.cell? ⟨b, o + (k - 1) * 2 + 1, none⟩ = some (.int .i64 (T (k - 1))))
          (first | go_keep | exact ⟨e1, e2, e3, e4⟩)
          (first
            | (go_at_call 72; refine (SP.out k hk1 hlt _).mono ?_; rintro e w2 ⟨rfl, g2⟩
               first
                 | (have e1 := g2.cell c1; have e2 := g2.cell c2; have e3 := g2.cell c3; have e4 := g2.cell c4; have n1 := World.new_ne w2 _ e1)
                 | (have e1 := g2.cell (gal.out.cell c1); have e2 := g2.cell (gal.out.cell c2); have e3 := g2.cell (gal.out.cell c3); have e4 := g2.cell (gal.out.cell c4); obtain ⟨z0, z1, z2, z3⟩ := BA.out.drew.gr g2)))
        all_goals go_wp2_with fail
        all_goals go_meet
        · exact ⟨_, rfl, Box2.new rfl, (by have := g2.size; simp at this; show _ ≤ _; omega), (((Gr.refl wr).drew).trans g2).alloc _⟩
        · exact ⟨_, rfl, (BA.out.drew.gr g2).put, (by show _ ≤ _; omega), ((((gal.out.drew).trans g2).setAt (Nat.le_refl _) _).setAt (Nat.le_refl _) _)⟩
      case rest =>
        obtain ⟨b6, rfl, X, hb6, gx⟩ := hcut
        have P2 := Lib.hid (B2.out.gr gx)
        have P3 := Lib.hid (B3.out.gr gx)
        have G := hg.trans gx
        have hz : w.heap.size + 1 < wr.heap.size := World.block_lt_of_cell? wr _ B3.out.1
        have hb := hb6.out
        clear c1 c2 c3 c4 gal BA n0 hg gx B2 B3 hb6
        by_cases hk3 : k = 1
        · have E1 := Lib.hid hk3
          have d1 : ((k : Int) == 1) = true := by simp; omega
          clear hk3
          obtain ⟨x0, x1, fx0, fx1⟩ := id X.out
          obtain ⟨s0, s1, f0, f1⟩ := id P2.out
          obtain ⟨s2, s3, f2, f3⟩ := id P3.out
          have X2 := X.out.far (b' := w.heap.size) (by omega) (.int .i64 (f (k - 1))) (.int .i64 (g (k - 1)))
          obtain ⟨y0, y1, _, _⟩ := X2
          have Q2 := Lib.hid ((P2.out.put (x' := f (k - 1)) (y' := g (k - 1))).far (b' := w.heap.size + 1) (by omega) (.int .i64 (f (k - 1))) (.int .i64 (g (k - 1))))
          have Q3 := Lib.hid ((P3.out.far (b' := w.heap.size) (by omega) (.int .i64 (f (k - 1))) (.int .i64 (g (k - 1)))).put (x' := f (k - 1)) (y' := g (k - 1)))
          have GG := Lib.hid ((((G.setAt (b := w.heap.size) (j := 0) (by omega) (.int .i64 (f (k - 1)))).setAt (b := w.heap.size) (j := 1) (by omega) (.int .i64 (g (k - 1)))).setAt (b := w.heap.size + 1) (j := 0) (by omega) (.int .i64 (f (k - 1)))).setAt (b := w.heap.size + 1) (j := 1) (by omega) (.int .i64 (g (k - 1))))
          go_wp2_with fail
          go_roundw
          case rel =>
            refine ⟨k + 1, f (k - 1), g (k - 1), f (k - 1), g (k - 1), by omega, by omega, by go_num, Q2, Q3, fun _ => ?_, GG.out⟩
            have e : k = 1 := E1.out
            subst e
            exact ⟨⟨rfl, rfl⟩, ⟨rfl, rfl⟩⟩
          case measure => simp [intOf]; omega
        · have d1 : ((k : Int) == 1) = false := by simp; omega
          have KK := Lib.hid (show 2 ≤ k by omega)
          have E := HE.out hk3
          have E' := Lib.hid E
          obtain ⟨⟨e1, e2⟩, e3, e4⟩ := E
          have bF := BD.out (k - 1) (by omega)
          have bM := BD.out (mnI f g (k - 2)) (by have := mnI_le f g (k - 2); omega)
          have bX := BD.out (mxI f g (k - 2)) (by have := mxI_le f g (k - 2); omega)
          rw [← e1, ← e2] at bM
          rw [← e3, ← e4] at bX
          have u1 := mul_bd (a := f (k - 1)) (b := q) (A := 100000) (B := 100000) (by omega) (by omega) (by omega) (by omega)
          have u2 := mul_bd (a := p) (b := g (k - 1)) (A := 100000) (B := 100000) (by omega) (by omega) (by omega) (by omega)
          have u3 := mul_bd (a := f (k - 1)) (b := s) (A := 100000) (B := 100000) (by omega) (by omega) (by omega) (by omega)
          have u4 := mul_bd (a := r) (b := g (k - 1)) (A := 100000) (B := 100000) (by omega) (by omega) (by omega) (by omega)
          have LS1 := Lib.hid (fun wz => refLess_any (f (k - 1)) (g (k - 1)) p q wz (by omega) (by omega))
          have LS2 := Lib.hid (fun wz => refLess_any r s (f (k - 1)) (g (k - 1)) wz (by omega) (by omega))
          have N1 : ∀ (h : f (k - 1) * q < p * g (k - 1)), mnI f g (k - 1) = k - 1 := fun h => mnI_yes (by have := KK.out; omega) (by rw [show k - 1 - 1 = k - 2 by omega, ← e1, ← e2]; exact h)
          have N2 : ∀ (h : ¬ f (k - 1) * q < p * g (k - 1)), f (mnI f g (k - 1)) = p ∧ g (mnI f g (k - 1)) = q := fun h => by
            rw [mnI_no (by have := KK.out; omega) (by rw [show k - 1 - 1 = k - 2 by omega, ← e1, ← e2]; exact h), show k - 1 - 1 = k - 2 by omega, ← e1, ← e2]; exact ⟨rfl, rfl⟩
          have N3 : ∀ (h : r * g (k - 1) < f (k - 1) * s), mxI f g (k - 1) = k - 1 := fun h => mxI_yes (by have := KK.out; omega) (by rw [show k - 1 - 1 = k - 2 by omega, ← e3, ← e4]; exact h)
          have N4 : ∀ (h : ¬ r * g (k - 1) < f (k - 1) * s), f (mxI f g (k - 1)) = r ∧ g (mxI f g (k - 1)) = s := fun h => by
            rw [mxI_no (by have := KK.out; omega) (by rw [show k - 1 - 1 = k - 2 by omega, ← e3, ← e4]; exact h), show k - 1 - 1 = k - 2 by omega, ← e3, ← e4]; exact ⟨rfl, rfl⟩
          have ek : k + 1 - 2 = k - 1 := by omega
          clear bF bM bX u1 u2 u3 u4 e1 e2 e3 e4 E' HE hk3
          by_cases hl1 : f (k - 1) * q < p * g (k - 1)
          · by_cases hl2 : r * g (k - 1) < f (k - 1) * s
            · have L1 : Hid (∀ wz, Calls Try.prog 44 #[.agg #[.int .i64 (f (k - 1)), .int .i64 (g (k - 1))], .agg #[.int .i64 p, .int .i64 q]] wz (RetB true wz)) := Lib.hid fun wz => by have := LS1.out wz; rwa [show decide (f (k - 1) * q < p * g (k - 1)) = true by simp; omega] at this
              have L2 : Hid (∀ wz, Calls Try.prog 44 #[.agg #[.int .i64 r, .int .i64 s], .agg #[.int .i64 (f (k - 1)), .int .i64 (g (k - 1))]] wz (RetB true wz)) := Lib.hid fun wz => by have := LS2.out wz; rwa [show decide (r * g (k - 1) < f (k - 1) * s) = true by simp; omega] at this
              have M1 : Hid (f (k - 1) = f (mnI f g (k - 1)) ∧ g (k - 1) = g (mnI f g (k - 1))) := Lib.hid (by rw [N1 hl1]; exact ⟨rfl, rfl⟩)
              have M2 : Hid (f (k - 1) = f (mxI f g (k - 1)) ∧ g (k - 1) = g (mxI f g (k - 1))) := Lib.hid (by rw [N3 hl2]; exact ⟨rfl, rfl⟩)
              clear hl1 hl2 N1 N2 N3 N4 LS1 LS2
              obtain ⟨x0, x1, fx0, fx1⟩ := id X.out
              obtain ⟨s0, s1, f0, f1⟩ := id P2.out
              go_wp2_with fail
              refine (L1.out _).mono ?_
              rintro e w2 ⟨rfl, g2⟩
              clear x0 x1 fx0 fx1 s0 s1 f0 f1
              have X' := X.out.gr g2
              have P2' := P2.out.gr g2
              have P3' := P3.out.gr g2
              have G' := G.trans g2
              have hz2 : w.heap.size + 1 < w2.heap.size := World.block_lt_of_cell? w2 _ P3'.1
              clear X P2 P3 G g2
              obtain ⟨x0, x1, fx0, fx1⟩ := id X'
              obtain ⟨s0, s1, f0, f1⟩ := id P2'
              replace X' := X'.far (b' := w.heap.size) (by omega) (.int .i64 (f (k - 1))) (.int .i64 (g (k - 1)))
              replace P2' := P2'.put (x' := f (k - 1)) (y' := g (k - 1))
              replace P3' := P3'.far (b' := w.heap.size) (by omega) (.int .i64 (f (k - 1))) (.int .i64 (g (k - 1)))
              replace G' := (G'.setAt (b := w.heap.size) (j := 0) (by omega) (.int .i64 (f (k - 1)))).setAt (b := w.heap.size) (j := 1) (by omega) (.int .i64 (g (k - 1)))
              obtain ⟨y0, y1, fy0, fy1⟩ := id X'
              obtain ⟨s2, s3, f2, f3⟩ := id P3'
              go_wp2_with fail
              refine (L2.out _).mono ?_
              rintro e w3 ⟨rfl, g3⟩
              replace X' := X'.gr g3
              replace P2' := P2'.gr g3
              replace P3' := P3'.gr g3
              replace G' := G'.trans g3
              have hz3 : w.heap.size + 1 < w3.heap.size := World.block_lt_of_cell? w3 _ P3'.1
              clear y0 y1 fy0 fy1 s2 s3 f2 f3 g3
              clear x0 x1 fx0 fx1 s0 s1 f0 f1
              obtain ⟨x0, x1, fx0, fx1⟩ := id X'
              obtain ⟨s0, s1, f0, f1⟩ := id P3'
              replace P2' := P2'.far (b' := w.heap.size + 1) (by omega) (.int .i64 (f (k - 1))) (.int .i64 (g (k - 1)))
              replace P3' := P3'.put (x' := f (k - 1)) (y' := g (k - 1))
              replace G' := (G'.setAt (b := w.heap.size + 1) (j := 0) (by omega) (.int .i64 (f (k - 1)))).setAt (b := w.heap.size + 1) (j := 1) (by omega) (.int .i64 (g (k - 1)))
              have P2h := Lib.hid P2'
              have P3h := Lib.hid P3'
              clear P2' P3' X'
              go_wp2_with fail
              go_roundw
              case rel =>
                refine ⟨k + 1, _, _, _, _, by omega, by omega, by go_num, P2h, P3h, fun _ => ?_, G'⟩
                rw [ek]
                exact ⟨M1.out, M2.out⟩
              case measure => simp [intOf]; omega
            · have L1 : Hid (∀ wz, Calls Try.prog 44 #[.agg #[.int .i64 (f (k - 1)), .int .i64 (g (k - 1))], .agg #[.int .i64 p, .int .i64 q]] wz (RetB true wz)) := Lib.hid fun wz => by have := LS1.out wz; rwa [show decide (f (k - 1) * q < p * g (k - 1)) = true by simp; omega] at this
              have L2 : Hid (∀ wz, Calls Try.prog 44 #[.agg #[.int .i64 r, .int .i64 s], .agg #[.int .i64 (f (k - 1)), .int .i64 (g (k - 1))]] wz (RetB false wz)) := Lib.hid fun wz => by have := LS2.out wz; rwa [show decide (r * g (k - 1) < f (k - 1) * s) = false by simp; omega] at this
              have M1 : Hid (f (k - 1) = f (mnI f g (k - 1)) ∧ g (k - 1) = g (mnI f g (k - 1))) := Lib.hid (by rw [N1 hl1]; exact ⟨rfl, rfl⟩)
              have M2 : Hid (r = f (mxI f g (k - 1)) ∧ s = g (mxI f g (k - 1))) := Lib.hid (by rw [(N4 hl2).1, (N4 hl2).2]; exact ⟨rfl, rfl⟩)
              clear hl1 hl2 N1 N2 N3 N4 LS1 LS2
              obtain ⟨x0, x1, fx0, fx1⟩ := id X.out
              obtain ⟨s0, s1, f0, f1⟩ := id P2.out
              go_wp2_with fail
              refine (L1.out _).mono ?_
              rintro e w2 ⟨rfl, g2⟩
              clear x0 x1 fx0 fx1 s0 s1 f0 f1
              have X' := X.out.gr g2
              have P2' := P2.out.gr g2
              have P3' := P3.out.gr g2
              have G' := G.trans g2
              have hz2 : w.heap.size + 1 < w2.heap.size := World.block_lt_of_cell? w2 _ P3'.1
              clear X P2 P3 G g2
              obtain ⟨x0, x1, fx0, fx1⟩ := id X'
              obtain ⟨s0, s1, f0, f1⟩ := id P2'
              replace X' := X'.far (b' := w.heap.size) (by omega) (.int .i64 (f (k - 1))) (.int .i64 (g (k - 1)))
              replace P2' := P2'.put (x' := f (k - 1)) (y' := g (k - 1))
              replace P3' := P3'.far (b' := w.heap.size) (by omega) (.int .i64 (f (k - 1))) (.int .i64 (g (k - 1)))
              replace G' := (G'.setAt (b := w.heap.size) (j := 0) (by omega) (.int .i64 (f (k - 1)))).setAt (b := w.heap.size) (j := 1) (by omega) (.int .i64 (g (k - 1)))
              obtain ⟨y0, y1, fy0, fy1⟩ := id X'
              obtain ⟨s2, s3, f2, f3⟩ := id P3'
              go_wp2_with fail
              refine (L2.out _).mono ?_
              rintro e w3 ⟨rfl, g3⟩
              replace X' := X'.gr g3
              replace P2' := P2'.gr g3
              replace P3' := P3'.gr g3
              replace G' := G'.trans g3
              have hz3 : w.heap.size + 1 < w3.heap.size := World.block_lt_of_cell? w3 _ P3'.1
              clear y0 y1 fy0 fy1 s2 s3 f2 f3 g3
              clear x0 x1 fx0 fx1 s0 s1 f0 f1
              have P2h := Lib.hid P2'
              have P3h := Lib.hid P3'
              clear P2' P3' X'
              go_wp2_with fail
              go_roundw
              case rel =>
                refine ⟨k + 1, _, _, _, _, by omega, by omega, by go_num, P2h, P3h, fun _ => ?_, G'⟩
                rw [ek]
                exact ⟨M1.out, M2.out⟩
              case measure => simp [intOf]; omega
          · by_cases hl2 : r * g (k - 1) < f (k - 1) * s
            · have L1 : Hid (∀ wz, Calls Try.prog 44 #[.agg #[.int .i64 (f (k - 1)), .int .i64 (g (k - 1))], .agg #[.int .i64 p, .int .i64 q]] wz (RetB false wz)) := Lib.hid fun wz => by have := LS1.out wz; rwa [show decide (f (k - 1) * q < p * g (k - 1)) = false by simp; omega] at this
              have L2 : Hid (∀ wz, Calls Try.prog 44 #[.agg #[.int .i64 r, .int .i64 s], .agg #[.int .i64 (f (k - 1)), .int .i64 (g (k - 1))]] wz (RetB true wz)) := Lib.hid fun wz => by have := LS2.out wz; rwa [show decide (r * g (k - 1) < f (k - 1) * s) = true by simp; omega] at this
              have M1 : Hid (p = f (mnI f g (k - 1)) ∧ q = g (mnI f g (k - 1))) := Lib.hid (by rw [(N2 hl1).1, (N2 hl1).2]; exact ⟨rfl, rfl⟩)
              have M2 : Hid (f (k - 1) = f (mxI f g (k - 1)) ∧ g (k - 1) = g (mxI f g (k - 1))) := Lib.hid (by rw [N3 hl2]; exact ⟨rfl, rfl⟩)
              clear hl1 hl2 N1 N2 N3 N4 LS1 LS2
              obtain ⟨x0, x1, fx0, fx1⟩ := id X.out
              obtain ⟨s0, s1, f0, f1⟩ := id P2.out
              go_wp2_with fail
              refine (L1.out _).mono ?_
              rintro e w2 ⟨rfl, g2⟩
              clear x0 x1 fx0 fx1 s0 s1 f0 f1
              have X' := X.out.gr g2
              have P2' := P2.out.gr g2
              have P3' := P3.out.gr g2
              have G' := G.trans g2
              have hz2 : w.heap.size + 1 < w2.heap.size := World.block_lt_of_cell? w2 _ P3'.1
              clear X P2 P3 G g2
              obtain ⟨y0, y1, fy0, fy1⟩ := id X'
              obtain ⟨s2, s3, f2, f3⟩ := id P3'
              go_wp2_with fail
              refine (L2.out _).mono ?_
              rintro e w3 ⟨rfl, g3⟩
              replace X' := X'.gr g3
              replace P2' := P2'.gr g3
              replace P3' := P3'.gr g3
              replace G' := G'.trans g3
              have hz3 : w.heap.size + 1 < w3.heap.size := World.block_lt_of_cell? w3 _ P3'.1
              clear y0 y1 fy0 fy1 s2 s3 f2 f3 g3
              obtain ⟨x0, x1, fx0, fx1⟩ := id X'
              obtain ⟨s0, s1, f0, f1⟩ := id P3'
              replace P2' := P2'.far (b' := w.heap.size + 1) (by omega) (.int .i64 (f (k - 1))) (.int .i64 (g (k - 1)))
              replace P3' := P3'.put (x' := f (k - 1)) (y' := g (k - 1))
              replace G' := (G'.setAt (b := w.heap.size + 1) (j := 0) (by omega) (.int .i64 (f (k - 1)))).setAt (b := w.heap.size + 1) (j := 1) (by omega) (.int .i64 (g (k - 1)))
              have P2h := Lib.hid P2'
              have P3h := Lib.hid P3'
              clear P2' P3' X'
              go_wp2_with fail
              go_roundw
              case rel =>
                refine ⟨k + 1, _, _, _, _, by omega, by omega, by go_num, P2h, P3h, fun _ => ?_, G'⟩
                rw [ek]
                exact ⟨M1.out, M2.out⟩
              case measure => simp [intOf]; omega
            · have L1 : Hid (∀ wz, Calls Try.prog 44 #[.agg #[.int .i64 (f (k - 1)), .int .i64 (g (k - 1))], .agg #[.int .i64 p, .int .i64 q]] wz (RetB false wz)) := Lib.hid fun wz => by have := LS1.out wz; rwa [show decide (f (k - 1) * q < p * g (k - 1)) = false by simp; omega] at this
              have L2 : Hid (∀ wz, Calls Try.prog 44 #[.agg #[.int .i64 r, .int .i64 s], .agg #[.int .i64 (f (k - 1)), .int .i64 (g (k - 1))]] wz (RetB false wz)) := Lib.hid fun wz => by have := LS2.out wz; rwa [show decide (r * g (k - 1) < f (k - 1) * s) = false by simp; omega] at this
              have M1 : Hid (p = f (mnI f g (k - 1)) ∧ q = g (mnI f g (k - 1))) := Lib.hid (by rw [(N2 hl1).1, (N2 hl1).2]; exact ⟨rfl, rfl⟩)
              have M2 : Hid (r = f (mxI f g (k - 1)) ∧ s = g (mxI f g (k - 1))) := Lib.hid (by rw [(N4 hl2).1, (N4 hl2).2]; exact ⟨rfl, rfl⟩)
              clear hl1 hl2 N1 N2 N3 N4 LS1 LS2
              obtain ⟨x0, x1, fx0, fx1⟩ := id X.out
              obtain ⟨s0, s1, f0, f1⟩ := id P2.out
              go_wp2_with fail
              refine (L1.out _).mono ?_
              rintro e w2 ⟨rfl, g2⟩
              clear x0 x1 fx0 fx1 s0 s1 f0 f1
              have X' := X.out.gr g2
              have P2' := P2.out.gr g2
              have P3' := P3.out.gr g2
              have G' := G.trans g2
              have hz2 : w.heap.size + 1 < w2.heap.size := World.block_lt_of_cell? w2 _ P3'.1
              clear X P2 P3 G g2
              obtain ⟨y0, y1, fy0, fy1⟩ := id X'
              obtain ⟨s2, s3, f2, f3⟩ := id P3'
              go_wp2_with fail
              refine (L2.out _).mono ?_
              rintro e w3 ⟨rfl, g3⟩
              replace X' := X'.gr g3
              replace P2' := P2'.gr g3
              replace P3' := P3'.gr g3
              replace G' := G'.trans g3
              have hz3 : w.heap.size + 1 < w3.heap.size := World.block_lt_of_cell? w3 _ P3'.1
              clear y0 y1 fy0 fy1 s2 s3 f2 f3 g3
              have P2h := Lib.hid P2'
              have P3h := Lib.hid P3'
              clear P2' P3' X'
              go_wp2_with fail
              go_roundw
              case rel =>
                refine ⟨k + 1, _, _, _, _, by omega, by omega, by go_num, P2h, P3h, fun _ => ?_, G'⟩
                rw [ek]
                exact ⟨M1.out, M2.out⟩
              case measure => simp [intOf]; omega
    · have e : k = n := by omega
      subst e
      obtain ⟨s0, s1, f0, f1⟩ := id B2.out
      obtain ⟨s2, s3, f2, f3⟩ := id B3.out
      have hz : w.heap.size + 1 < wr.heap.size := World.block_lt_of_cell? wr _ s2
      have E := Lib.hid (HE.out (by omega))
      have F2 := Lib.hid ((B2.out.put (x' := p) (y' := q)).far (b' := w.heap.size + 1) (by omega) (.int .i64 r) (.int .i64 s)).drew
      have F3 := Lib.hid ((B3.out.far (b' := w.heap.size) (by omega) (.int .i64 p) (.int .i64 q)).put (x' := r) (y' := s)).drew
      have F2' := Lib.hid ((B2.out.far (b' := w.heap.size + 1) (by omega) (.int .i64 r) (.int .i64 s)).put (x' := p) (y' := q)).drew
      have F3' := Lib.hid ((B3.out.put (x' := r) (y' := s)).far (b' := w.heap.size) (by omega) (.int .i64 p) (.int .i64 q)).drew
      clear HE B2' B3' g1 SP BD
      go_wp2_with fail
      go_region
      all_goals go_wp2_with fail
      all_goals first
        | (obtain ⟨t0, t1, _, _⟩ := F2.out
           obtain ⟨t2, t3, _, _⟩ := F3.out
           refine bodyPost_ret (v := .tuple #[.agg #[.int .i64 p, .int .i64 q], .agg #[.int .i64 r, .int .i64 s], .int .i64 0]) (by simp [results, Try.results45, go_sem, t0, t1, t2, t3]) rfl ⟨by rw [E.out.1.1, E.out.1.2, E.out.2.1, E.out.2.2], ?_⟩
           exact ((((hg.setAt (by omega) _).setAt (by omega) _).setAt (by omega) _).setAt (by omega) _).drew)
        | (obtain ⟨t0, t1, _, _⟩ := F2'.out
           obtain ⟨t2, t3, _, _⟩ := F3'.out
           refine bodyPost_ret (v := .tuple #[.agg #[.int .i64 p, .int .i64 q], .agg #[.int .i64 r, .int .i64 s], .int .i64 0]) (by simp [results, Try.results45, go_sem, t0, t1, t2, t3]) rfl ⟨by rw [E.out.1.1, E.out.1.2, E.out.2.1, E.out.2.2], ?_⟩
           exact ((((hg.setAt (by omega) _).setAt (by omega) _).setAt (by omega) _).setAt (by omega) _).drew)

theorem Speeds_any (a : Option Addr) (n c : Nat) (L T : Nat → Int) (w : World) (hn : n ≤ 9223372036854775807) (hr : RdM w a n L T) :
    Calls Try.prog 42 #[.slice a n c] w (RetRRE (okV (vK n L T) true (sF L T (mnI (sF L T) (sG L T) (n - 2)))) (okV (vK n L T) true (sG L T (mnI (sF L T) (sG L T) (n - 2)))) (okV (vK n L T) true (sF L T (mxI (sF L T) (sG L T) (n - 2)))) (okV (vK n L T) true (sG L T (mxI (sF L T) (sG L T) (n - 2)))) (okE (vK n L T) true) w) := by
  cases hv : vK n L T with
  | true => exact Speeds_ok a n c L T w hn hr hv
  | false => exact Speeds_no a n c L T w hn hr hv
theorem refSpeeds_any (a : Option Addr) (n c : Nat) (L T : Nat → Int) (w : World) (hn : n ≤ 9223372036854775807) (hr : RdM w a n L T) :
    Calls Try.prog 45 #[.slice a n c] w (RetRRE (okV (vK n L T) true (sF L T (mnI (sF L T) (sG L T) (n - 2)))) (okV (vK n L T) true (sG L T (mnI (sF L T) (sG L T) (n - 2)))) (okV (vK n L T) true (sF L T (mxI (sF L T) (sG L T) (n - 2)))) (okV (vK n L T) true (sG L T (mxI (sF L T) (sG L T) (n - 2)))) (okE (vK n L T) true) w) := by
  cases hv : vK n L T with
  | true => exact refSpeeds_ok a n c L T w hn hr hv
  | false => exact refSpeeds_no a n c L T w hn hr hv

end Go.Proofs.Ytdlbgelidcfmiaa
