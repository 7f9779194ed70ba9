/- The law ConeTimes at valid hits: the walk. -/
import Derived.Test.YtjokheeegcilhaaDoorFrb
import Derived.Test.YtjokheeegcilhaaDoorWA
import Derived.Test.YtjokheeegcilhaaDoorWN
namespace Go.Proofs.YtjokheeegcilhaaDoor.coneTimes
open Go.RowKit Go.Firn

theorem most_is (adr : Option Addr) (n c : Nat) (P T : Nat → Int) (wi : Int) (w : World) (hr : RdM w adr n P T) (hw : WfH n P T) (V : VH n P T) (hb : 0 ≤ wi ∧ wi ≤ 2000) :
    ∃ m a : Int, IsM T (cI T n wi) n m a ∧ ∀ w1, Gr w w1 → Calls Tryd.prog 49 #[.slice adr n c, .int .i64 wi] w1 (RetMo m a 0 w1) := by
  have R := refM_is (T := T) (c := cI T n wi) (n := n) (fun i hi => by have := cnT_pos (T := T) hb.1 hi; unfold cI; omega) (k := n - 1) (by have := V.pos; omega)
  rw [show n - 1 + 1 = n by have := V.pos; omega] at R
  refine ⟨_, _, R, fun w1 k => (Most_ok adr n c P T wi w1 (hr.gr k) hw V hb).mono fun e w2 ⟨m, a, I, h⟩ => ?_⟩
  obtain ⟨rfl, rfl⟩ := I.unique R
  exact h
theorem isT_ex {T : Nat → Int} {c : Int → Int} {n : Nat} {N m a : Int} (hM : IsM T c n m a) : ∃ t E, IsT T c n N t E ∧ ((E = 0 ∧ N ≤ m ∧ t ≤ a ∧ N ≤ c t ∧ (∃ i, i < n ∧ T i = t) ∧ ∀ i, i < n → N ≤ c (T i) → t ≤ T i) ∨ (E = 5 ∧ m < N ∧ t = 0 ∧ ∀ i, i < n → c (T i) < N)) := by
  obtain ⟨ia, ha, ea, em⟩ := hM.is
  by_cases h : N ≤ m
  · have key : ∀ k, k ≤ n → (∃ i, i < k ∧ N ≤ c (T i)) → ∃ i, i < k ∧ N ≤ c (T i) ∧ ∀ j, j < k → N ≤ c (T j) → T i ≤ T j := by
      intro k
      induction k with
      | zero => rintro _ ⟨i, hi, _⟩; omega
      | succ k ih =>
        intro hm hx
        by_cases e : ∃ i, i < k ∧ N ≤ c (T i)
        · obtain ⟨i, hi, h1, h2⟩ := ih (by omega) e
          by_cases g : N ≤ c (T k) ∧ T k < T i
          · exact ⟨k, by omega, g.1, fun j hj h3 => by
              by_cases q : j = k
              · subst q; exact Int.le_refl _
              · have := h2 j (by omega) h3; omega⟩
          · refine ⟨i, by omega, h1, fun j hj h3 => ?_⟩
            by_cases q : j = k
            · subst q
              by_cases r : T j < T i
              · exact absurd ⟨h3, r⟩ g
              · omega
            · exact h2 j (by omega) h3
        · obtain ⟨i, hi, h1⟩ := hx
          have : i = k := by
            by_cases q : i = k
            · exact q
            · exact absurd ⟨i, by omega, h1⟩ e
          subst this
          exact ⟨i, by omega, h1, fun j hj h3 => by
            by_cases q : j = i
            · subst q; exact Int.le_refl _
            · exact absurd ⟨j, by omega, h3⟩ e⟩
    obtain ⟨i, hi, h1, h2⟩ := key n (Nat.le_refl n) ⟨ia, ha, by rw [← em]; exact h⟩
    refine ⟨T i, 0, .inl ⟨rfl, ⟨i, hi, rfl, h1⟩, h2⟩, .inl ⟨rfl, h, ?_, h1, ⟨i, hi, rfl⟩, h2⟩⟩
    rw [ea]
    exact h2 ia ha (by rw [← em]; exact h)
  · have no : ∀ i, i < n → c (T i) < N := fun i hi => by rcases hM.top i hi with q | q <;> omega
    exact ⟨0, 5, .inr ⟨rfl, rfl, no⟩, .inr ⟨rfl, by omega, rfl, no⟩⟩
theorem trig_is (adr : Option Addr) (n c : Nat) (P T : Nat → Int) (N wi t E : Int) (w : World) (hr : RdM w adr n P T) (hw : WfH n P T) (V : VH n P T) (hb : 0 ≤ wi ∧ wi ≤ 2000) (hN : 1 ≤ N ∧ N ≤ 14) (R : IsT T (cI T n wi) n N t E) :
    ∀ w1, Gr w w1 → Calls Tryd.prog 51 #[.slice adr n c, .int .i64 N, .int .i64 wi] w1 (RetTr t E w1) := fun w1 k =>
  (Trigger_ok adr n c P T N wi w1 (hr.gr k) hw V hb hN).mono fun e w2 ⟨t', E', I, h⟩ => by
    obtain ⟨rfl, rfl⟩ := I.unique R
    exact h
theorem tmod_nat (x M : Nat) : (x : Int).tmod (M : Int) = ((x % M : Nat) : Int) := by rw [Int.tmod_eq_emod_of_nonneg (Int.natCast_nonneg x)]; rfl
theorem wr_sm {x y : Int} (h : -1000000 ≤ x ∧ x ≤ 1000000) (e : x = y) : IntKind.i64.wrap x = y ∧ wrap64 x = y := by
  subst e; exact wr64 (by omega)
theorem nums (x y0 y1 : Nat) (hx : x ≤ 255) (h0 : y0 < 65536) (h1 : y1 < 65536) : ∃ A N B K R L : Nat, 1 ≤ N ∧ N ≤ 14 ∧ B ≤ 2000 ∧ B ≤ L ∧ L ≤ 2000 ∧ (x : Int).tmod 14 = (A : Int) ∧ (y0 : Int).tmod 2001 = (B : Int) ∧ (y1 : Int).tmod (K : Int) = (R : Int) ∧ ¬ K = 0 ∧ ¬ (K : Int) = 0 ∧
    (IntKind.i64.wrap (x : Int) = (x : Int) ∧ wrap64 (x : Int) = (x : Int)) ∧ (IntKind.i64.wrap (y0 : Int) = (y0 : Int) ∧ wrap64 (y0 : Int) = (y0 : Int)) ∧ (IntKind.i64.wrap (y1 : Int) = (y1 : Int) ∧ wrap64 (y1 : Int) = (y1 : Int)) ∧
    (IntKind.i64.wrap (1 + (A : Int)) = (N : Int) ∧ wrap64 (1 + (A : Int)) = (N : Int)) ∧ (IntKind.i64.wrap (2001 - (B : Int)) = (K : Int) ∧ wrap64 (2001 - (B : Int)) = (K : Int)) ∧ (IntKind.i64.wrap ((B : Int) + (R : Int)) = (L : Int) ∧ wrap64 ((B : Int) + (R : Int)) = (L : Int)) := by
  have a : x % 14 < 14 := Nat.mod_lt _ (by decide)
  have b : y0 % 2001 < 2001 := Nat.mod_lt _ (by decide)
  have k : 0 < 2001 - y0 % 2001 := by omega
  have r : y1 % (2001 - y0 % 2001) < 2001 - y0 % 2001 := Nat.mod_lt _ k
  have t1 := tmod_nat x 14
  have t2 := tmod_nat y0 2001
  have t3 := tmod_nat y1 (2001 - y0 % 2001)
  generalize x % 14 = A at *
  generalize y0 % 2001 = B at *
  generalize hK : 2001 - B = K at *
  generalize y1 % K = R at *
  have e1 : (1 : Int) + (A : Int) = ((1 + A : Nat) : Int) := by omega
  have e2 : (2001 : Int) - (B : Int) = (K : Int) := by omega
  have e3 : (B : Int) + (R : Int) = ((B + R : Nat) : Int) := by omega
  have u1 : -1000000 ≤ (x : Int) ∧ (x : Int) ≤ 1000000 := by omega
  have u2 : -1000000 ≤ (y0 : Int) ∧ (y0 : Int) ≤ 1000000 := by omega
  have u3 : -1000000 ≤ (y1 : Int) ∧ (y1 : Int) ≤ 1000000 := by omega
  have u4 : -1000000 ≤ (1 : Int) + (A : Int) ∧ (1 : Int) + (A : Int) ≤ 1000000 := by omega
  have u5 : -1000000 ≤ (2001 : Int) - (B : Int) ∧ (2001 : Int) - (B : Int) ≤ 1000000 := by omega
  have u6 : -1000000 ≤ (B : Int) + (R : Int) ∧ (B : Int) + (R : Int) ≤ 1000000 := by omega
  exact ⟨A, 1 + A, B, K, R, B + R, by omega, by omega, by omega, by omega, by omega, t1, t2, t3, by omega, by omega, wr_sm u1 rfl, wr_sm u2 rfl, wr_sm u3 rfl, wr_sm u4 e1, wr_sm u5 e2, wr_sm u6 e3⟩
theorem isM_wide {T : Nat → Int} {n : Nat} {w w' m a m' a' : Int} (h : IsM T (cI T n w) n m a) (h' : IsM T (cI T n w') n m' a') (hw : w ≤ w') : m ≤ m' := by
  obtain ⟨i, hi, _, rfl⟩ := h.is
  have a := cnT_wide (T := T) (t := T i) hw n
  rcases h'.top i hi with b | b <;> (unfold cI at *; omega)

set_option maxHeartbeats 16000000 in
set_option maxRecDepth 100000 in
theorem walk_ok (adr : Option Addr) (n cc : Nat) (P T : Nat → Int) (x y0 y1 : Nat) (w : World) (V : VH n P T) (hw : WfH n P T) (hh : RdM w adr n P T) (hT : Tab w) (bx : x ≤ 255) (b0 : y0 < 65536) (b1 : y1 < 65536) :
    Calls Tryd.prog 12 #[.slice adr n cc, .int .u8 x, .agg #[.int .u16 y0, .int .u16 y1]] w (RetB true w) := by
  have TT := Lib.hid hT
  have hn := V.few
  have hp := V.pos
  have t1 : decide (40 < n) = false := by simp; omega
  obtain ⟨W0, hW0⟩ : ∃ W0, w.alloc (.cells #[.int .u16 y0, .int .u16 y1] 58) = W0 := ⟨_, rfl⟩
  have G0 := Lib.hid (show Gr w W0 by rw [← hW0]; exact (Gr.refl w).alloc _)
  have c0 : W0.cell? ⟨w.heap.size, 0, none⟩ = some (.int .u16 y0) := by rw [← hW0]; exact ((Gr.refl _).fresh' (b := w.heap.size) (j := 0) rfl rfl).1
  have c1 : W0.cell? ⟨w.heap.size, 1, none⟩ = some (.int .u16 y1) := by rw [← hW0]; exact ((Gr.refl _).fresh' (b := w.heap.size) (j := 1) rfl rfl).1
  have C0 := Lib.hid c0
  have C1 := Lib.hid c1
  have CV := Lib.hid (fun w1 (k : Gr w w1) => by have := (refValid_any adr n cc P T w1 (by omega) (hh.gr k)).mono fun _ _ h => h.b; rw [vH_iff.2 V] at this; exact this)
  obtain ⟨A, M, B, K, R, L, N1, N2, B1, B2, L1, QQ⟩ := nums x y0 y1 bx b0 b1
  have QQ := Lib.hid QQ
  have hn9 : n ≤ 9223372036854775807 := by omega
  have hB : 0 ≤ (B : Int) ∧ (B : Int) ≤ 2000 := ⟨Int.natCast_nonneg _, Int.ofNat_le.2 B1⟩
  have hL : 0 ≤ (L : Int) ∧ (L : Int) ≤ 2000 := ⟨Int.natCast_nonneg _, Int.ofNat_le.2 L1⟩
  have hBL : (B : Int) ≤ (L : Int) := Int.ofNat_le.2 B2
  have hM : 1 ≤ (M : Int) ∧ (M : Int) ≤ 14 := ⟨Int.ofNat_le.2 N1, Int.ofNat_le.2 N2⟩
  have hB4 : 0 ≤ (B : Int) ∧ (B : Int) ≤ 4000 := ⟨Int.natCast_nonneg _, Int.ofNat_le.2 (Nat.le_trans B1 (by decide))⟩
  clear N1 N2 B1 B2 L1 bx b0 b1
  obtain ⟨m, a, IM, C49⟩ := most_is adr n cc P T (B : Int) w hh hw V hB
  obtain ⟨m2, a2, IM2, C49b⟩ := most_is adr n cc P T (L : Int) w hh hw V hL
  obtain ⟨t, E, IT, HE⟩ := isT_ex (N := (M : Int)) IM
  have C51 := trig_is adr n cc P T (M : Int) (B : Int) t E w hh hw V hB hM IT
  have CF := Lib.hid (fun (t : Int) (ht : -3000 ≤ t ∧ t ≤ 3000) w1 (g : Gr w w1) => count_any adr n cc P T t (B : Int) w1 hn ht hB4 (hh.gr g))
  have HH := Lib.hid hh
  have VT := Lib.hid (show ∀ i, i < n → -1000 ≤ T i ∧ T i ≤ 1000 from fun i hi => (V.ok i hi).2.2)
  have wid : m ≤ m2 := isM_wide IM IM2 hBL
  have mb : 1 ≤ m ∧ m ≤ (n : Int) := by
    obtain ⟨i, hi, _, rfl⟩ := IM.is
    have p := cnT_pos (T := T) (w := (B : Int)) hB.1 hi
    have l := cnT_le T (B : Int) (T i) n
    unfold cI; omega
  have ab : -1000 ≤ a ∧ a ≤ 1000 := by obtain ⟨i, hi, rfl, _⟩ := IM.is; exact VT.out i hi
  have ca : ((cnT T n (B : Int) a : Nat) : Int) = m := by obtain ⟨i, hi, rfl, rfl⟩ := IM.is; rfl
  have CA := Lib.hid (CF.out a ⟨Int.le_trans (by decide) ab.1, Int.le_trans ab.2 (by decide)⟩)
  rw [ca] at CA
  have TOP := Lib.hid IM.top
  have C49 := Lib.hid C49
  have C49b := Lib.hid C49b
  have C51 := Lib.hid C51
  clear V hw hh hT ca IM IM2 IT c0 c1
  have g1 : ¬ m < 1 := Int.not_lt.2 mb.1
  have g2 : ¬ m > (n : Int) := Int.not_lt.2 mb.2
  have g2' : ¬ (n : Int) < m := Int.not_lt.2 mb.2
  have g3 : m2 ≥ m := wid
  have g3' : m ≤ m2 := wid
  rcases HE with ⟨rfl, e1, e2, e3, ⟨it, hit, eit⟩, e4⟩ | ⟨rfl, e1, rfl, e4⟩
  · have tb := VT.out it hit
    rw [eit] at tb
    have CT := Lib.hid (CF.out t ⟨Int.le_trans (by decide) tb.1, Int.le_trans tb.2 (by decide)⟩)
    have ect : ((cnT T n (B : Int) t : Nat) : Int) = cI T n (B : Int) t := rfl
    rw [ect] at CT
    clear ect tb
    have f1 : m ≥ (M : Int) := e1
    have f2 : ¬ cI T n (B : Int) t < (M : Int) := Int.not_lt.2 e3
    have f3 : ¬ t > a := Int.not_lt.2 e2
    have f3' : ¬ a < t := Int.not_lt.2 e2
    have E4 := Lib.hid e4
    clear e4 e2 e3 eit hit
    generalize cI T n (B : Int) t = ct at *
    have h91 : decide (ct < (M : Int)) = false := decide_eq_false f2
    have h92 : decide (a < t) = false := decide_eq_false f3'
    have h93 : decide ((M : Int) ≤ m) = true := decide_eq_true e1
    clear f1 f2 f3 f3' e1
    obtain ⟨q1, q2, _, _, _, ⟨q4, q5⟩, ⟨q6, q7⟩, _, ⟨q10, q11⟩, _, _⟩ := QQ.out
    clear hB hL hBL hM hB4 mb ab wid hp
    go_enter Tryd.func12, Tryd.ntmps12
    go_wp2_with (first
      | (go_at_call 15; refine (Long_any adr n cc _ hn9).mono ?_; rintro e w1 ⟨rfl, rfl⟩; rw [t1])
      | (go_at_call 27; (with_reducible refine (CV.out _ G0.out).mono ?_); rintro e w1 ⟨rfl, g1x⟩; have G1 := Lib.hid (G0.out.trans g1x); have d0 := g1x.cell C0.out; have D1 := Lib.hid (g1x.cell C1.out); clear g1x)
      | (go_at_call 49; (with_reducible refine (C49.out _ G1.out).mono ?_); rintro e w2 ⟨rfl, g2x⟩; have G2 := Lib.hid (G1.out.trans g2x); have D2 := Lib.hid (g2x.cell D1.out); clear g2x d0)
      | (go_at_call 51; (with_reducible refine (C51.out _ G2.out).mono ?_); rintro e w3 ⟨rfl, g3x⟩; have G3 := Lib.hid (G2.out.trans g3x); have D3 := Lib.hid (g3x.cell D2.out); clear g3x)
      | (go_at_call 53; (with_reducible refine (CA.out _ G3.out).mono ?_); rintro e w4 ⟨rfl, rfl⟩)
      | (go_at_call 53; (with_reducible refine (CT.out _ G3.out).mono ?_); rintro e w4 ⟨rfl, rfl⟩))
    clear q1 q2 q4 q5 q6 q7 q10 q11
    go_loopw [14] (fun i wr => ∃ k : Nat, k ≤ n ∧ i = .int .i64 k ∧ Hid (Gr w3 wr)) (fun i _ => n - (intOf i).toNat)
    case atStart => exact ⟨0, Nat.zero_le _, rfl, Lib.hid (Gr.refl _)⟩
    case round =>
      obtain ⟨k, hk, rfl, HW⟩ := hrel
      have GW := Lib.hid (G3.out.trans HW.out)
      by_cases hlt : k < n
      · obtain ⟨b, o, rfl, hc⟩ := (HH.out.gr GW.out).at hlt
        obtain ⟨_, ck⟩ := hc k hlt
        have kl : (k : Int) < (n : Int) := Int.ofNat_lt.2 hlt
        have tk := VT.out k hlt
        have CK := Lib.hid (CF.out (T k) ⟨Int.le_trans (by decide) tk.1, Int.le_trans tk.2 (by decide)⟩ _ GW.out)
        have ec : ((cnT T n (B : Int) (T k) : Nat) : Int) = cI T n (B : Int) (T k) := rfl
        rw [ec] at CK
        have tp := TOP.out k hlt
        have e5 := E4.out k hlt
        clear hc ec tk
        generalize cI T n (B : Int) (T k) = z at *
        generalize T k = y at *
        have zm : z ≤ m := tp.elim Int.le_of_lt fun q => Int.le_of_eq q.1
        have h1 : decide (m < z) = false := decide_eq_false (Int.not_lt.2 zm)
        clear zm
        by_cases h2 : z = m
        · have h3 : decide (y < a) = false := decide_eq_false (Int.not_lt.2 (tp.elim (fun q => absurd q (by rw [h2]; exact Int.lt_irrefl _)) fun q => q.2))
          subst h2
          by_cases h4 : (M : Int) ≤ z
          · have h5 := e5 h4
            have h6 : decide (y < t) = false := decide_eq_false (Int.not_lt.2 h5)
            have h7 : decide ((M : Int) ≤ z) = true := decide_eq_true h4
            clear e5 tp h4 h5
            go_wp2_with (go_at_call 53; (with_reducible refine CK.out.mono ?_); rintro e w4 ⟨rfl, rfl⟩)
            go_roundw
            case rel => exact ⟨k + 1, hlt, by first | rfl | go_num, HW⟩
            case measure => simp [intOf]; first | exact Nat.sub_lt_sub_left hlt (Nat.lt_succ_self k) | omega
          · exact absurd (h93.symm.trans (decide_eq_false h4)) (by decide)
        · have h3 : (z == m) = false := by simpa using h2
          by_cases h4 : (M : Int) ≤ z
          · have h5 := e5 h4
            have h6 : decide (y < t) = false := decide_eq_false (Int.not_lt.2 h5)
            have h7 : decide ((M : Int) ≤ z) = true := decide_eq_true h4
            clear e5 tp h4 h5
            go_wp2_with (go_at_call 53; (with_reducible refine CK.out.mono ?_); rintro e w4 ⟨rfl, rfl⟩)
            go_roundw
            case rel => exact ⟨k + 1, hlt, by first | rfl | go_num, HW⟩
            case measure => simp [intOf]; first | exact Nat.sub_lt_sub_left hlt (Nat.lt_succ_self k) | omega
          · have h7 : decide ((M : Int) ≤ z) = false := decide_eq_false h4
            clear e5 tp h4
            go_wp2_with (go_at_call 53; (with_reducible refine CK.out.mono ?_); rintro e w4 ⟨rfl, rfl⟩)
            go_roundw
            case rel => exact ⟨k + 1, hlt, by first | rfl | go_num, HW⟩
            case measure => simp [intOf]; first | exact Nat.sub_lt_sub_left hlt (Nat.lt_succ_self k) | omega
      · obtain rfl : k = n := Nat.le_antisymm hk (Nat.not_lt.1 hlt)
        have kl : ¬ (k : Int) < (k : Int) := Int.lt_irrefl _
        have d1 := HW.out.cell D3.out
        obtain ⟨_, _, q3, k0, k1, _, _, ⟨q8, q9⟩, _, ⟨q12, q13⟩, ⟨q14, q15⟩⟩ := QQ.out
        go_wp2_with (first
          | (go_at_call 49; (with_reducible refine (C49b.out _ GW.out).mono ?_); rintro e w5 ⟨rfl, g5⟩; have G5 := Lib.hid (GW.out.trans g5); clear g5)
          | (go_at_call 16; refine (Sane_any _ (TT.out.gr G5.out)).mono ?_; rintro e w7 ⟨rfl, g7⟩; have G7 := Lib.hid (G5.out.trans g7)))
        go_ret
        exact ⟨rfl, G7.out⟩
  · have f1 : ¬ m ≥ (M : Int) := Int.not_le.2 e1
    have h93 : decide ((M : Int) ≤ m) = false := decide_eq_false f1
    have E4 := Lib.hid e4
    clear e4 f1 e1
    obtain ⟨q1, q2, _, _, _, ⟨q4, q5⟩, ⟨q6, q7⟩, _, ⟨q10, q11⟩, _, _⟩ := QQ.out
    clear hB hL hBL hM hB4 mb ab wid hp
    go_enter Tryd.func12, Tryd.ntmps12
    go_wp2_with (first
      | (go_at_call 15; refine (Long_any adr n cc _ hn9).mono ?_; rintro e w1 ⟨rfl, rfl⟩; rw [t1])
      | (go_at_call 27; (with_reducible refine (CV.out _ G0.out).mono ?_); rintro e w1 ⟨rfl, g1x⟩; have G1 := Lib.hid (G0.out.trans g1x); have d0 := g1x.cell C0.out; have D1 := Lib.hid (g1x.cell C1.out); clear g1x)
      | (go_at_call 49; (with_reducible refine (C49.out _ G1.out).mono ?_); rintro e w2 ⟨rfl, g2x⟩; have G2 := Lib.hid (G1.out.trans g2x); have D2 := Lib.hid (g2x.cell D1.out); clear g2x d0)
      | (go_at_call 51; (with_reducible refine (C51.out _ G2.out).mono ?_); rintro e w3 ⟨rfl, g3x⟩; have G3 := Lib.hid (G2.out.trans g3x); have D3 := Lib.hid (g3x.cell D2.out); clear g3x)
      | (go_at_call 53; (with_reducible refine (CA.out _ G3.out).mono ?_); rintro e w4 ⟨rfl, rfl⟩))
    clear q1 q2 q4 q5 q6 q7 q10 q11
    go_loopw [14] (fun i wr => ∃ k : Nat, k ≤ n ∧ i = .int .i64 k ∧ Hid (Gr w3 wr)) (fun i _ => n - (intOf i).toNat)
    case atStart => exact ⟨0, Nat.zero_le _, rfl, Lib.hid (Gr.refl _)⟩
    case round =>
      obtain ⟨k, hk, rfl, HW⟩ := hrel
      have GW := Lib.hid (G3.out.trans HW.out)
      by_cases hlt : k < n
      · obtain ⟨b, o, rfl, hc⟩ := (HH.out.gr GW.out).at hlt
        obtain ⟨_, ck⟩ := hc k hlt
        have kl : (k : Int) < (n : Int) := Int.ofNat_lt.2 hlt
        have tk := VT.out k hlt
        have CK := Lib.hid (CF.out (T k) ⟨Int.le_trans (by decide) tk.1, Int.le_trans tk.2 (by decide)⟩ _ GW.out)
        have ec : ((cnT T n (B : Int) (T k) : Nat) : Int) = cI T n (B : Int) (T k) := rfl
        rw [ec] at CK
        have tp := TOP.out k hlt
        have e5 := E4.out k hlt
        clear hc ec tk
        generalize cI T n (B : Int) (T k) = z at *
        generalize T k = y at *
        have zm : z ≤ m := tp.elim Int.le_of_lt fun q => Int.le_of_eq q.1
        have h1 : decide (m < z) = false := decide_eq_false (Int.not_lt.2 zm)
        clear zm
        by_cases h2 : z = m
        · have h3 : decide (y < a) = false := decide_eq_false (Int.not_lt.2 (tp.elim (fun q => absurd q (by rw [h2]; exact Int.lt_irrefl _)) fun q => q.2))
          subst h2
          have h8 : True := trivial
          go_wp2_with (go_at_call 53; (with_reducible refine CK.out.mono ?_); rintro e w4 ⟨rfl, rfl⟩)
          go_roundw
          case rel => exact ⟨k + 1, hlt, by first | rfl | go_num, HW⟩
          case measure => simp [intOf]; first | exact Nat.sub_lt_sub_left hlt (Nat.lt_succ_self k) | omega
        · have h3 : (z == m) = false := by simpa using h2
          have h8 : True := trivial
          go_wp2_with (go_at_call 53; (with_reducible refine CK.out.mono ?_); rintro e w4 ⟨rfl, rfl⟩)
          go_roundw
          case rel => exact ⟨k + 1, hlt, by first | rfl | go_num, HW⟩
          case measure => simp [intOf]; first | exact Nat.sub_lt_sub_left hlt (Nat.lt_succ_self k) | omega
      · obtain rfl : k = n := Nat.le_antisymm hk (Nat.not_lt.1 hlt)
        have kl : ¬ (k : Int) < (k : Int) := Int.lt_irrefl _
        have d1 := HW.out.cell D3.out
        obtain ⟨_, _, q3, k0, k1, _, _, ⟨q8, q9⟩, _, ⟨q12, q13⟩, ⟨q14, q15⟩⟩ := QQ.out
        go_wp2_with (first
          | (go_at_call 49; (with_reducible refine (C49b.out _ GW.out).mono ?_); rintro e w5 ⟨rfl, g5⟩; have G5 := Lib.hid (GW.out.trans g5); clear g5)
          | (go_at_call 16; refine (Sane_any _ (TT.out.gr G5.out)).mono ?_; rintro e w7 ⟨rfl, g7⟩; have G7 := Lib.hid (G5.out.trans g7)))
        go_ret
        exact ⟨rfl, G7.out⟩

end Go.Proofs.YtjokheeegcilhaaDoor.coneTimes
