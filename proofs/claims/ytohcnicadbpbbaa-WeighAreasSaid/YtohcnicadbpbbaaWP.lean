/- Contracts of chapter 7: the products of all pairs of weights. -/
import Derived.Test.YtohcnicadbpbbaaP9
import Derived.Test.YtohcnicadbpbbaaWL
namespace Go.Proofs.Ytohcnicadbpbbaa
open Go.RowKit Go.Firn

theorem pd_bd {f u : Nat → Int} {n m : Nat} (hf : VW n f) (hu : VW m u) : ∀ p, p < n * m → 0 ≤ pdF f u m p ∧ pdF f u m p ≤ 1000000 := fun p hp => by
  have h0 := hu.one
  have h1 := hf.ok (p / m) ((Nat.div_lt_iff_lt_mul h0).2 hp)
  have h2 := hu.ok (p % m) (Nat.mod_lt _ h0)
  have h3 := Int.mul_nonneg h1.1 h2.1
  have h4 := Int.mul_le_mul h1.2 h2.2 h2.1 (by decide)
  unfold pdF
  omega
theorem grid_lt {n m i j : Nat} (hi : i < n) (hj : j < m) : i * m + j < n * m := by
  have := Nat.mul_le_mul_right m (show i + 1 ≤ n by omega)
  rw [Nat.succ_mul] at this
  omega
theorem pd_pos {f u : Nat → Int} {n m : Nat} (hf : VW n f) (hu : VW m u) : 0 < sm (pdF f u m) (n * m) := by rw [sm_pd]; exact Int.mul_pos hf.pos hu.pos

set_option maxHeartbeats 4000000 in
set_option maxRecDepth 100000 in
theorem products_any (a a2 : Option Addr) (n c m d : Nat) (f u : Nat → Int) (w : World) (hf : VW n f) (hu : VW m u) (hr : RdI w a n f) (hs : RdI w a2 m u) :
    Calls Try.prog 47 #[.slice a n c, .slice a2 m d] w (RetI1 (n * m) (pdQ f u n m) w) := by
  have hn := hf.few
  have hm := hu.few
  have hn1 := hf.one
  have hm1 := hu.one
  have PB := Lib.hid (pd_bd hf hu)
  have KP := Lib.hid (kG_pos (pd_pos hf hu))
  have KD := Lib.hid (fun p (hp : p < n * m) => kG_dvd (pdF f u m) hp)
  have KB := Lib.hid (fun q (hq : q ≤ n * m) => kG_le (pdF f u m) hq (B := 1000000) (fun p hp => by have := pd_bd hf hu p hp; omega))
  have FE := Lib.hid (fun i j (hj : j < m) => pdF_at f u (i := i) hj)
  have N0 := Lib.hid (show 0 < n * m from Nat.mul_pos hn1 hm1)
  have N1 := Lib.hid (show n * m ≤ 100 from Nat.mul_le_mul hn hm)
  have HRR := Lib.hid hr
  have HSS := Lib.hid hs
  have UO := Lib.hid hu.ok
  have FO := Lib.hid hf.ok
  obtain ⟨Q, hQ⟩ : ∃ Q, pdQ f u n m = Q := ⟨_, rfl⟩
  have EQ := Lib.hid (show ∀ p, Q p = pdF f u m p / (kG (pdF f u m) (n * m) : Int) from fun p => by rw [← hQ]; rfl)
  rw [hQ]
  clear hr hs hf hu hQ
  generalize pdF f u m = F at *
  go_enter Try.func47, Try.ntmps47
  go_wp2_with fail
  go_loopw [5, 6, 8, 10, 14] (fun v kk _ _ s wr => ∃ i : Nat, i ≤ n ∧ s = .int .i64 i ∧ kk = .int .i64 (kG F (i * m) : Nat) ∧ OwnI w 3 wr v (i * m) F) (fun _ _ _ _ s _ => n - (intOf s).toNat)
  case atStart => exact ⟨0, by omega, rfl, by rw [Nat.zero_mul]; rfl, by rw [Nat.zero_mul]; exact OwnI.nil' (by first | exact Gr.refl _ | exact (Gr.refl _).drew) _ _⟩
  case round =>
    obtain ⟨i, hi, rfl, rfl, hown⟩ := hrel
    by_cases hlt : i < n
    · have hlti : (i : Int) < (n : Int) := by omega
      obtain ⟨b3, o3, e3, h3⟩ := (HRR.out.gr hown.2).at hlt
      have c3 := h3 i hlt
      subst e3
      have ES := Lib.hid (show (i + 1) * m = i * m + m from Nat.succ_mul i m)
      have FI := Lib.hid (fun j (hj : j < m) => FE.out i j hj)
      have LI := Lib.hid (fun j (hj : j < m) => grid_lt hlt hj)
      have fi := FO.out i hlt
      generalize i * m = im at *
      clear h3 FE
      generalize f i = x at *
      go_wp2_with fail
      clear c3
      go_loopw [5, 6, 10, 20] (fun v kk _ s wq => ∃ j : Nat, j ≤ m ∧ s = .int .i64 j ∧ kk = .int .i64 (kG F (im + j) : Nat) ∧ OwnI w 3 wq v (im + j) F) (fun _ _ _ s _ => m - (intOf s).toNat)
      case atStart => exact ⟨0, by omega, rfl, rfl, hown⟩
      case round =>
        clear hown
        obtain ⟨j, hj, rfl, rfl, hown⟩ := hrel
        by_cases hlj : j < m
        · have hlji : (j : Int) < (m : Int) := by omega
          obtain ⟨b4, o4, e4, h4⟩ := (HSS.out.gr hown.2).at hlj
          have c4 := h4 j hlj
          subst e4
          have PL := LI.out j hlj
          have E := Lib.hid (FI.out j hlj)
          have PBj := PB.out (im + j) PL
          rw [E.out] at PBj
          have EK := Lib.hid (show kG F (im + (j + 1)) = Int.gcd (kG F (im + j)) (F (im + j)) from rfl)
          rw [E.out] at EK
          have EI := Lib.hid (show im + (j + 1) = im + j + 1 from rfl)
          have KBj := KB.out (im + j) (by omega)
          have SK := Lib.hid (show Sz (kG F (im + j) : Nat) from ⟨by omega, by omega⟩)
          generalize kG F (im + j) = kk at *
          generalize im + j = pp at *
          have p9 : pp < 1000000000 := by have := N1.out; omega
          have uj := UO.out j hlj
          clear h4
          generalize u j = y at *
          obtain ⟨xy, hxy⟩ : ∃ xy, x * y = xy := ⟨_, rfl⟩
          have q1 : IntKind.i64.wrap (x * y) = xy := by rw [hxy]; rw [hxy] at PBj; exact IntWalk.i64_in _ (by omega)
          have q2 : wrap64 (x * y) = xy := by rw [hxy]; rw [hxy] at PBj; exact IntWalk.wrap64_in _ (by omega)
          rw [hxy] at E EK PBj
          have SX := Lib.hid (show Sz xy from ⟨by omega, by omega⟩)
          go_wp2_with (first
            | (go_at_call 64; (with_reducible refine (divisor_any _ _ _ SK.out SX.out).mono ?_); rintro e w2 ⟨rfl, mm, rfl⟩; have HO2 := Lib.hid (hown1.gr ((Gr.refl _).drewN mm)))
            | (at_builtin; go_must (refine wpList_app_int rfl _ _ 22 3 rfl Try.underlying22 Try.info3 _ pp _ rfl (hown.alloc _) _ _ rfl (cell_new1 _ _ _) E.out p9 ?_); intro v1 w1 hown1 _))
          go_roundw
          case rel => exact ⟨j + 1, hlj, by go_num, by rw [EI.out] at EK; rw [EI.out, EK.out], by rw [EI.out]; exact HO2.out⟩
          case measure => simp [intOf]; omega
        · have hnj : ¬ (j : Int) < (m : Int) := by omega
          have ej : j = m := by omega
          have ES2 := Lib.hid (show (i + 1) * m = im + j by rw [ES.out, ej])
          have hd := Lib.hid hown
          clear hown ej
          go_wp2_with fail
          go_roundw
          case rel => exact ⟨i + 1, hlt, by go_num, by rw [ES2.out], by rw [ES2.out]; exact hd.out⟩
          case measure => simp [intOf]; omega
    · have hnlt : ¬ (i : Int) < (n : Int) := by omega
      have ei : i = n := by omega
      rw [ei] at hown
      rw [ei]
      have kb := KB.out (n * m) (Nat.le_refl _)
      generalize n * m = NN at *
      obtain ⟨b, cc, rfl, l1, l2, l3, R0⟩ := rowI_of_owns hown.1 N0.out
      have G1 := Lib.hid hown.2
      have kp := KP.out
      generalize kG F NN = kk at *
      have R0 := Lib.hid R0
      have n1 := N1.out
      have n0 := N0.out
      clear hown ei
      go_wp2_with fail
      go_loopw [11, 39] (fun _ s wq => ∃ q : Nat, q ≤ NN ∧ s = .int .i64 q ∧ Hid (Wr b wr wq) ∧ Hid (RowI wq b NN (fun p => if p < q then F p / (kk : Int) else F p))) (fun _ s _ => NN - (intOf s).toNat)
      case atStart => exact ⟨0, by omega, rfl, Lib.hid (Wr.refl _ _), Lib.hid (fun p hp => R0.out p hp)⟩
      case round =>
        obtain ⟨q, hq, rfl, HW, HR⟩ := hrel
        by_cases hlq : q < NN
        · have hlqi : (q : Int) < (NN : Int) := by omega
          obtain ⟨c5, f5⟩ := HR.out q hlq
          simp only [if_neg (Nat.lt_irrefl q)] at c5
          have gne : (kk : Int) ≠ 0 := by omega
          have q1 : (F q).tdiv (kk : Int) = F q / (kk : Int) := Int.tdiv_eq_ediv_of_dvd (KD.out q hlq)
          have fb := PB.out q hlq
          have fb2 : 0 ≤ F q / (kk : Int) := Int.ediv_nonneg fb.1 (by omega)
          have fb3 : F q / (kk : Int) ≤ F q := Int.ediv_le_self _ fb.1
          have R2 := Lib.hid (show RowI (wr.setCell ⟨b, q, none⟩ (.int .i64 (F q / (kk : Int)))) b NN (fun p => if p < q + 1 then F p / (kk : Int) else F p) from fun p hp => by
            obtain ⟨h1, h2⟩ := HR.out.set q (F q / (kk : Int)) p hp
            refine ⟨h1.trans ?_, h2⟩
            show some (Value.int .i64 (if p = q then F q / (kk : Int) else if p < q then F p / (kk : Int) else F p)) = some (Value.int .i64 (if p < q + 1 then F p / (kk : Int) else F p))
            by_cases e : p = q
            · rw [if_pos e, if_pos (by omega), e]
            · rw [if_neg e]
              by_cases e2 : p < q
              · rw [if_pos e2, if_pos (by omega)]
              · rw [if_neg e2, if_neg (by omega)])
          generalize F q / (kk : Int) = y at *
          generalize F q = x at *
          have q3 : wrap64 y = y := IntWalk.wrap64_in _ (by omega)
          have q4 : IntKind.i64.wrap y = y := IntWalk.i64_in _ (by omega)
          go_wp2_with fail
          go_roundw
          case rel => exact ⟨q + 1, hlq, by go_num, Lib.hid (HW.out.set q _), R2⟩
          case measure => simp [intOf]; omega
        · have hnq : ¬ (q : Int) < (NN : Int) := by omega
          have eq : q = NN := by omega
          have RE := Lib.hid (HR.out.rd.congr (g := Q) (fun p hp => by rw [EQ.out, if_pos (by omega)]))
          have GE := Lib.hid (HW.out.gr G1.out l3)
          go_wp2_with fail
          go_ret
          exact ⟨_, _, rfl, l1, l2, RE.out, GE.out⟩

set_option maxHeartbeats 4000000 in
set_option maxRecDepth 100000 in
theorem refproducts_any (a a2 : Option Addr) (n c m d : Nat) (f u : Nat → Int) (w : World) (hf : VW n f) (hu : VW m u) (hr : RdI w a n f) (hs : RdI w a2 m u) :
    Calls Try.prog 59 #[.slice a n c, .slice a2 m d] w (RetI1 (n * m) (pdQ f u n m) w) := by
  have hn := hf.few
  have hm := hu.few
  have hn1 := hf.one
  have hm1 := hu.one
  have PB := Lib.hid (pd_bd hf hu)
  have KP := Lib.hid (kG_pos (pd_pos hf hu))
  have KD := Lib.hid (fun p (hp : p < n * m) => kG_dvd (pdF f u m) hp)
  have KB := Lib.hid (fun q (hq : q ≤ n * m) => kG_le (pdF f u m) hq (B := 1000000) (fun p hp => by have := pd_bd hf hu p hp; omega))
  have FE := Lib.hid (fun i j (hj : j < m) => pdF_at f u (i := i) hj)
  have N0 := Lib.hid (show 0 < n * m from Nat.mul_pos hn1 hm1)
  have N1 := Lib.hid (show n * m ≤ 100 from Nat.mul_le_mul hn hm)
  have HRR := Lib.hid hr
  have HSS := Lib.hid hs
  have UO := Lib.hid hu.ok
  have FO := Lib.hid hf.ok
  obtain ⟨Q, hQ⟩ : ∃ Q, pdQ f u n m = Q := ⟨_, rfl⟩
  have EQ := Lib.hid (show ∀ p, Q p = pdF f u m p / (kG (pdF f u m) (n * m) : Int) from fun p => by rw [← hQ]; rfl)
  rw [hQ]
  clear hr hs hf hu hQ
  generalize pdF f u m = F at *
  go_enter Try.func59, Try.ntmps59
  go_wp2_with fail
  go_loopw [5, 6, 8, 10, 14] (fun v kk _ _ s wr => ∃ i : Nat, i ≤ n ∧ s = .int .i64 i ∧ kk = .int .i64 (kG F (i * m) : Nat) ∧ OwnI w 3 wr v (i * m) F) (fun _ _ _ _ s _ => n - (intOf s).toNat)
  case atStart => exact ⟨0, by omega, rfl, by rw [Nat.zero_mul]; rfl, by rw [Nat.zero_mul]; exact OwnI.nil' (by first | exact Gr.refl _ | exact (Gr.refl _).drew) _ _⟩
  case round =>
    obtain ⟨i, hi, rfl, rfl, hown⟩ := hrel
    by_cases hlt : i < n
    · have hlti : (i : Int) < (n : Int) := by omega
      obtain ⟨b3, o3, e3, h3⟩ := (HRR.out.gr hown.2).at hlt
      have c3 := h3 i hlt
      subst e3
      have ES := Lib.hid (show (i + 1) * m = i * m + m from Nat.succ_mul i m)
      have FI := Lib.hid (fun j (hj : j < m) => FE.out i j hj)
      have LI := Lib.hid (fun j (hj : j < m) => grid_lt hlt hj)
      have fi := FO.out i hlt
      generalize i * m = im at *
      clear h3 FE
      generalize f i = x at *
      go_wp2_with fail
      clear c3
      go_loopw [5, 6, 10, 20] (fun v kk _ s wq => ∃ j : Nat, j ≤ m ∧ s = .int .i64 j ∧ kk = .int .i64 (kG F (im + j) : Nat) ∧ OwnI w 3 wq v (im + j) F) (fun _ _ _ s _ => m - (intOf s).toNat)
      case atStart => exact ⟨0, by omega, rfl, rfl, hown⟩
      case round =>
        clear hown
        obtain ⟨j, hj, rfl, rfl, hown⟩ := hrel
        by_cases hlj : j < m
        · have hlji : (j : Int) < (m : Int) := by omega
          obtain ⟨b4, o4, e4, h4⟩ := (HSS.out.gr hown.2).at hlj
          have c4 := h4 j hlj
          subst e4
          have PL := LI.out j hlj
          have E := Lib.hid (FI.out j hlj)
          have PBj := PB.out (im + j) PL
          rw [E.out] at PBj
          have EK := Lib.hid (show kG F (im + (j + 1)) = Int.gcd (kG F (im + j)) (F (im + j)) from rfl)
          rw [E.out] at EK
          have EI := Lib.hid (show im + (j + 1) = im + j + 1 from rfl)
          have KBj := KB.out (im + j) (by omega)
          have SK := Lib.hid (show Sz (kG F (im + j) : Nat) from ⟨by omega, by omega⟩)
          generalize kG F (im + j) = kk at *
          generalize im + j = pp at *
          have p9 : pp < 1000000000 := by have := N1.out; omega
          have uj := UO.out j hlj
          clear h4
          generalize u j = y at *
          obtain ⟨xy, hxy⟩ : ∃ xy, x * y = xy := ⟨_, rfl⟩
          have q1 : IntKind.i64.wrap (x * y) = xy := by rw [hxy]; rw [hxy] at PBj; exact IntWalk.i64_in _ (by omega)
          have q2 : wrap64 (x * y) = xy := by rw [hxy]; rw [hxy] at PBj; exact IntWalk.wrap64_in _ (by omega)
          rw [hxy] at E EK PBj
          have SX := Lib.hid (show Sz xy from ⟨by omega, by omega⟩)
          by_cases h0 : 0 < xy
          · have EK2 := Lib.hid (EK.out.trans (Int.gcd_comm ..))
            clear EK
            have h0' : xy > 0 := h0
            go_wp2_with (first
              | (go_at_call 66; (with_reducible refine (gcd_any _ _ _ SX.out SK.out).mono ?_); rintro e w2 ⟨rfl, mm, rfl⟩; have HO2 := Lib.hid (hown1.gr ((Gr.refl _).drewN mm)))
              | (at_builtin; go_must (refine wpList_app_int rfl _ _ 22 3 rfl Try.underlying22 Try.info3 _ pp _ rfl (hown.alloc _) _ _ rfl (cell_new1 _ _ _) E.out p9 ?_); intro v1 w1 hown1 _))
            go_roundw
            case rel => exact ⟨j + 1, hlj, by go_num, by rw [EI.out] at EK2; rw [EI.out, EK2.out], by rw [EI.out]; exact HO2.out⟩
            case measure => simp [intOf]; omega
          · have h00 : xy = 0 := by omega
            have EK2 := Lib.hid (show kG F (pp + 1) = kk by rw [← EI.out, EK.out, h00, Int.gcd_zero_right]; rfl)
            have h0' : ¬ xy > 0 := h0
            clear EK h00
            go_wp2_with (at_builtin; go_must (refine wpList_app_int rfl _ _ 22 3 rfl Try.underlying22 Try.info3 _ pp _ rfl (hown.alloc _) _ _ rfl (cell_new1 _ _ _) E.out p9 ?_); intro v1 w1 hown1 _)
            go_roundw
            case rel => exact ⟨j + 1, hlj, by go_num, by rw [EI.out, EK2.out], by rw [EI.out]; exact hown1⟩
            case measure => simp [intOf]; omega
        · have hnj : ¬ (j : Int) < (m : Int) := by omega
          have ej : j = m := by omega
          have ES2 := Lib.hid (show (i + 1) * m = im + j by rw [ES.out, ej])
          have hd := Lib.hid hown
          clear hown ej
          go_wp2_with fail
          go_roundw
          case rel => exact ⟨i + 1, hlt, by go_num, by rw [ES2.out], by rw [ES2.out]; exact hd.out⟩
          case measure => simp [intOf]; omega
    · have hnlt : ¬ (i : Int) < (n : Int) := by omega
      have ei : i = n := by omega
      rw [ei] at hown
      rw [ei]
      have kb := KB.out (n * m) (Nat.le_refl _)
      generalize n * m = NN at *
      obtain ⟨b, cc, rfl, l1, l2, l3, R0⟩ := rowI_of_owns hown.1 N0.out
      have G1 := Lib.hid hown.2
      have kp := KP.out
      generalize kG F NN = kk at *
      have R0 := Lib.hid R0
      have n1 := N1.out
      have n0 := N0.out
      clear hown ei
      go_wp2_with fail
      go_loopw [11, 43] (fun _ s wq => ∃ q : Nat, q ≤ NN ∧ s = .int .i64 q ∧ Hid (Wr b wr wq) ∧ Hid (RowI wq b NN (fun p => if p < q then F p / (kk : Int) else F p))) (fun _ s _ => NN - (intOf s).toNat)
      case atStart => exact ⟨0, by omega, rfl, Lib.hid (Wr.refl _ _), Lib.hid (fun p hp => R0.out p hp)⟩
      case round =>
        obtain ⟨q, hq, rfl, HW, HR⟩ := hrel
        by_cases hlq : q < NN
        · have hlqi : (q : Int) < (NN : Int) := by omega
          obtain ⟨c5, f5⟩ := HR.out q hlq
          simp only [if_neg (Nat.lt_irrefl q)] at c5
          have gne : (kk : Int) ≠ 0 := by omega
          have q1 : (F q).tdiv (kk : Int) = F q / (kk : Int) := Int.tdiv_eq_ediv_of_dvd (KD.out q hlq)
          have fb := PB.out q hlq
          have fb2 : 0 ≤ F q / (kk : Int) := Int.ediv_nonneg fb.1 (by omega)
          have fb3 : F q / (kk : Int) ≤ F q := Int.ediv_le_self _ fb.1
          have R2 := Lib.hid (show RowI (wr.setCell ⟨b, q, none⟩ (.int .i64 (F q / (kk : Int)))) b NN (fun p => if p < q + 1 then F p / (kk : Int) else F p) from fun p hp => by
            obtain ⟨h1, h2⟩ := HR.out.set q (F q / (kk : Int)) p hp
            refine ⟨h1.trans ?_, h2⟩
            show some (Value.int .i64 (if p = q then F q / (kk : Int) else if p < q then F p / (kk : Int) else F p)) = some (Value.int .i64 (if p < q + 1 then F p / (kk : Int) else F p))
            by_cases e : p = q
            · rw [if_pos e, if_pos (by omega), e]
            · rw [if_neg e]
              by_cases e2 : p < q
              · rw [if_pos e2, if_pos (by omega)]
              · rw [if_neg e2, if_neg (by omega)])
          generalize F q / (kk : Int) = y at *
          generalize F q = x at *
          have q3 : wrap64 y = y := IntWalk.wrap64_in _ (by omega)
          have q4 : IntKind.i64.wrap y = y := IntWalk.i64_in _ (by omega)
          go_wp2_with fail
          go_roundw
          case rel => exact ⟨q + 1, hlq, by go_num, Lib.hid (HW.out.set q _), R2⟩
          case measure => simp [intOf]; omega
        · have hnq : ¬ (q : Int) < (NN : Int) := by omega
          have eq : q = NN := by omega
          have RE := Lib.hid (HR.out.rd.congr (g := Q) (fun p hp => by rw [EQ.out, if_pos (by omega)]))
          have GE := Lib.hid (HW.out.gr G1.out l3)
          go_wp2_with fail
          go_ret
          exact ⟨_, _, rfl, l1, l2, RE.out, GE.out⟩

end Go.Proofs.Ytohcnicadbpbbaa
