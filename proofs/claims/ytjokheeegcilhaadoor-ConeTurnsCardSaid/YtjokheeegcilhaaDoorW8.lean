/- Contracts of chapter 2: the longest layer of the reference. -/
import Derived.Test.YtjokheeegcilhaaDoorW7
import Derived.Test.YtjokheeegcilhaaDoorPA
import Derived.Test.YtjokheeegcilhaaDoorCow
namespace Go.Proofs.YtjokheeegcilhaaDoor
open Go.RowKit Go.Firn

theorem pow_i64 {a : Nat} (h : a ≤ 14) : IntKind.i64.wrap ((2 : Int) ^ a) = (2 : Int) ^ a := by
  have := pow14 h
  rw [ipow]
  generalize (2 : Nat) ^ a = q at this ⊢
  exact IntWalk.i64_in _ (by omega)
theorem orp_i64 {x a : Nat} (hx : x < 65536) (ha : a ≤ 14) : bits .or .i64 (x : Int) ((2 : Int) ^ a) = ((x ||| 2 ^ a : Nat) : Int) := by
  have := pow14 ha
  rw [ipow]
  exact i64_or_nat x _ (by omega) (by omega)

theorem before_b (adr : Option Addr) (n c : Nat) (P T : Nat → Int) (w : World) (V : VH n P T) (a b : Nat) (ha : a < n) (hb : b < n) (hr : RdM w adr n P T) :
    Calls Tryd.prog 60 #[.slice adr n c, .int .i64 a, .int .i64 b] w (RetB (bf P T a b) w) := (before_any adr n c P T w V a b ha hb hr).mono fun _ _ h => h.b

theorem know_put {w : World} {bk n A B : Nat} {P T : Nat → Int} (Q : RowG w bk n (iV (knowP n P T A B))) (hB : B < n) (F : cmpd P T A B = true) :
    RowG (w.setCell ⟨bk, A, none⟩ (.int .i64 ((knowP n P T A B A ||| 2 ^ (n - 1 - B) : Nat) : Int))).drew bk n (iV (knowP n P T A (B + 1))) := by
  refine (RowG.drew (Q.put (j := A) _)).congr fun i _ => ?_
  have := knowP_yes (n := n) (P := P) (T := T) (A := A) (B := B) (a := i) hB F
  show (if i = A then _ else iV _ i) = iV _ i
  unfold iV
  rw [← this]
  split <;> rfl

set_option maxHeartbeats 1000000 in
set_option maxRecDepth 20000 in
/-- All that the reference's search needs. -/
theorem refLayer_ok (adr : Option Addr) (n c : Nat) (P T : Nat → Int) (w : World) (V : VH n P T) (hr : RdM w adr n P T) :
    Calls Tryd.prog 18 #[.slice adr n c] w (RetLE (layL n P T) 0 w) := by
  have hpos := V.pos
  have hfew := V.few
  have EV := Lib.hid (vH_iff.2 V)
  have HV := Lib.hid V
  have HR := Lib.hid hr
  obtain ⟨cs, hcs, _, mk0⟩ := made Tryd.underlying23 Tryd.info3 rfl (by omega) n (by omega)
  clear V hr
  go_enter Tryd.func18, Tryd.ntmps18
  go_wp2_with (go_at_call 27; refine (refValid_any adr n c P T _ (by omega) HR.out).mono ?_; rintro e w1 ⟨rfl, g1⟩; rw [EV.out])
  have G1 := Lib.hid (show Gr w w1 by obtain ⟨m, rfl⟩ := g1; exact (Gr.refl w).drewN m)
  clear g1
  obtain ⟨bk, hbk⟩ : ∃ bk, bk = w1.heap.size := ⟨_, rfl⟩
  have R0 := Lib.hid ((RowG.new (w := w1) (e := 3) hbk.symm hcs).congr (V' := iV (knowP n P T 0 0)) fun i _ => by unfold iV; rw [knowP_zero]; rfl)
  have G2 := Lib.hid (G1.out.alloc (.cells cs 3))
  have B0 := Lib.hid (show w.heap.size ≤ bk by rw [hbk]; exact G1.out.size)
  rw [← hbk]
  go_wp2_with fail
  go_loopw [5] (fun s wr => ∃ A : Nat, A ≤ n ∧ s = .int .i64 A ∧ Hid (RowG wr bk n (iV (knowP n P T A 0))) ∧ Hid (Gr w wr)) (fun s _ => n - (intOf s).toNat)
  case atStart => exact ⟨0, Nat.zero_le _, rfl, R0, G2⟩
  case round =>
    obtain ⟨A, hA, rfl, Q1, H1⟩ := hrel
    clear R0 G2 G1 hbk mk0 hcs
    by_cases hlt : A < n
    · go_wp2_with fail
      go_loopw [6] (fun s wx => ∃ B : Nat, B ≤ n ∧ s = .int .i64 B ∧ Hid (RowG wx bk n (iV (knowP n P T A B))) ∧ Hid (Gr w wx)) (fun s _ => n - (intOf s).toNat)
      case atStart => exact ⟨0, Nat.zero_le _, rfl, Q1, H1⟩
      case round =>
        obtain ⟨B, hB, rfl, Q2, H2⟩ := hrel
        clear Q1 H1
        by_cases hl2 : B < n
        · by_cases hb1 : bf P T A B = true
          · have S1 := Lib.hid (show ∀ w : World, RdM w adr n P T → Calls Tryd.prog 60 #[.slice adr n c, .int .i64 A, .int .i64 B] w (RetB true w) from fun w hr => by have := before_b adr n c P T w HV.out A B hlt hl2 hr; rw [hb1] at this; exact this)
            have F := Lib.hid (show cmpd P T A B = true by unfold cmpd; rw [hb1]; rfl)
            go_upto_region 11 with (first
              | (go_at_call 60; (with_reducible refine (S1.out _ (HR.out.gr H2.out)).mono ?_); rintro e w2 ⟨rfl, g2⟩; have H3 := Lib.hid (H2.out.trans g2); have Q3 := Lib.hid (Q2.out.gr g2)))
            obtain ⟨d1, d2⟩ := Q3.out A hlt
            unfold iV at d1
            have hK : knowP n P T A B A < 65536 := by have := knowP_lt (n := n) (P := P) (T := T) (A := A) (B := B) (a := A); have := pow14 hfew; omega
            have x1 : (n : Int) - 1 - (B : Int) = ((n - 1 - B : Nat) : Int) := by omega
            have x2 : IntKind.i64.wrap ((n : Int) - 1 - (B : Int)) = ((n - 1 - B : Nat) : Int) := by rw [IntWalk.i64_in _ (by omega)]; omega
            have x3 := pow_i64 (a := n - 1 - B) (by omega)
            have x4 := orp_i64 (a := n - 1 - B) hK (by omega)
            have x5 : (A : Int) < (n : Int) := by omega
            go_region
            clear x1 x2 x3 x4 x5 hK d1 d2
            go_wp2_with fail
            go_roundw
            case rel => exact ⟨B + 1, hl2, by go_num, know_put Q3.out hl2 F.out, (H3.out.setAt (b := bk) (j := A) B0.out _).drew⟩
            case measure => simp [intOf]; omega
          · have hb1' : bf P T A B = false := by simpa using hb1
            have S1 := Lib.hid (show ∀ w : World, RdM w adr n P T → Calls Tryd.prog 60 #[.slice adr n c, .int .i64 A, .int .i64 B] w (RetB false w) from fun w hr => by have := before_b adr n c P T w HV.out A B hlt hl2 hr; rw [hb1'] at this; exact this)
            clear hb1
            by_cases hb2 : bf P T B A = true
            · have S2 := Lib.hid (show ∀ w : World, RdM w adr n P T → Calls Tryd.prog 60 #[.slice adr n c, .int .i64 B, .int .i64 A] w (RetB true w) from fun w hr => by have := before_b adr n c P T w HV.out B A hl2 hlt hr; rw [hb2] at this; exact this)
              have F := Lib.hid (show cmpd P T A B = true by unfold cmpd; rw [hb2]; simp)
              go_upto_region 11 with (first
                | (go_at_call 60; (with_reducible refine (S1.out _ (HR.out.gr H2.out)).mono ?_); rintro e w2 ⟨rfl, g2⟩; have H3 := Lib.hid (H2.out.trans g2); have Q3 := Lib.hid (Q2.out.gr g2))
                | (go_at_call 60; (with_reducible refine (S2.out _ (HR.out.gr H3.out)).mono ?_); rintro e w3 ⟨rfl, g3⟩; have H4 := Lib.hid (H3.out.trans g3); have Q4 := Lib.hid (Q3.out.gr g3)))
              obtain ⟨d1, d2⟩ := Q4.out A hlt
              unfold iV at d1
              have hK : knowP n P T A B A < 65536 := by have := knowP_lt (n := n) (P := P) (T := T) (A := A) (B := B) (a := A); have := pow14 hfew; omega
              have x1 : (n : Int) - 1 - (B : Int) = ((n - 1 - B : Nat) : Int) := by omega
              have x2 : IntKind.i64.wrap ((n : Int) - 1 - (B : Int)) = ((n - 1 - B : Nat) : Int) := by rw [IntWalk.i64_in _ (by omega)]; omega
              have x3 := pow_i64 (a := n - 1 - B) (by omega)
              have x4 := orp_i64 (a := n - 1 - B) hK (by omega)
              have x5 : (A : Int) < (n : Int) := by omega
              go_region
              clear x1 x2 x3 x4 x5 hK d1 d2
              go_wp2_with fail
              go_roundw
              case rel => exact ⟨B + 1, hl2, by go_num, know_put Q4.out hl2 F.out, (H4.out.setAt (b := bk) (j := A) B0.out _).drew⟩
              case measure => simp [intOf]; omega
            · have hb2' : bf P T B A = false := by simpa using hb2
              have S2 := Lib.hid (show ∀ w : World, RdM w adr n P T → Calls Tryd.prog 60 #[.slice adr n c, .int .i64 B, .int .i64 A] w (RetB false w) from fun w hr => by have := before_b adr n c P T w HV.out B A hl2 hlt hr; rw [hb2'] at this; exact this)
              clear hb2
              have F := Lib.hid (show cmpd P T A B = false by unfold cmpd; rw [hb1', hb2']; rfl)
              go_wp2_with (first
                | (go_at_call 60; (with_reducible refine (S1.out _ (HR.out.gr H2.out)).mono ?_); rintro e w2 ⟨rfl, g2⟩; have H3 := Lib.hid (H2.out.trans g2); have Q3 := Lib.hid (Q2.out.gr g2))
                | (go_at_call 60; (with_reducible refine (S2.out _ (HR.out.gr H3.out)).mono ?_); rintro e w3 ⟨rfl, g3⟩; have H4 := Lib.hid (H3.out.trans g3); have Q4 := Lib.hid (Q3.out.gr g3)))
              go_roundw
              case rel => exact ⟨B + 1, by omega, by go_num, Q4.out.congr fun i _ => by unfold iV; rw [knowP_no F.out], H4⟩
              case measure => simp [intOf]; omega
        · obtain rfl : B = n := by omega
          go_wp2_with fail
          go_roundw
          case rel => exact ⟨A + 1, by omega, by go_num, Q2.out.congr fun i _ => by unfold iV; rw [knowP_next], H2⟩
          case measure => simp [intOf]; omega
    · obtain rfl : A = n := by omega
      have Q2 := Lib.hid (Q1.out.congr (V' := iV (knowM A P T)) fun i hi => by unfold iV; rw [knowP_end hi])
      clear Q1
      go_wp2_with fail
      have hL := Lib.hid (show ∀ a, knowM A P T a < 2 ^ A from fun a => mk_lt _ _)
      have EL := Lib.hid (lay_list A P T)
      have ED := Lib.hid (show downS A (knowM A P T) 0 = layR A P T from downS_end A _)
      generalize knowM A P T = L at Q2 hL ED
      have p14 := pow14 hfew
      have pp := Nat.two_pow_pos A
      have x1 := Lib.hid (show wrap64 (wrap64 ((2 : Int) ^ A) - 1) = ((2 ^ A - 1 : Nat) : Int) by
        rw [ipow]; generalize 2 ^ A = q at p14 pp ⊢
        rw [IntWalk.wrap64_in (q : Int) (by omega), IntWalk.wrap64_in _ (by omega)]; omega)
      have P14 := Lib.hid p14
      have PP := Lib.hid pp
      clear p14 pp
      have Z := Lib.hid (show cnt (downS A L (2 ^ A - 1)).testBit A = 0 by rw [downS_top, ← els_length, els_nil]; rfl)
      go_loopw [7, 8, 9] (fun s7 s8 s9 wx => ∃ c : Nat, s9 = .int .i64 c ∧ Hid (c < 2 ^ A) ∧ s7 = .int .i64 (downS A L c : Nat) ∧ s8 = .int .i64 (cnt (downS A L c).testBit A : Nat) ∧ wx = wr) (fun _ _ s _ => (intOf s).toNat)
      case atStart =>
        exact ⟨2 ^ A - 1, by rw [x1.out], (by have := PP.out; show _ < _; omega), by rw [downS_top]; rfl, by rw [Z.out]; rfl, rfl⟩
      case round =>
        obtain ⟨c, rfl, hc, rfl, rfl, rfl⟩ := hrel
        clear x1
        by_cases h0 : c = 0
        · subst h0
          have S := Lib.hid (show ∀ w : World, Calls Tryd.prog 61 #[.int .i64 A, .int .i64 (downS A L 0 : Nat)] w (RetL (layL A P T) w) from fun w => by
            have := reflist_any A (layR A P T) w hfew (lay_rev A P T).2.1
            rw [EL.out, ← ED.out] at this
            exact this)
          go_wp2_with (go_at_call 61; refine (S.out _).mono ?_; rintro e w3 ⟨a, c, rfl, r1, r2, r3, r4⟩)
          go_ret2
          exact ⟨a, c, rfl, r1, r2, r3, H1.out.trans r4⟩
        · have cp : 0 < c := by omega
          have C1 := Lib.hid (show c < 16384 by have := hc.out; have := P14.out; omega)
          have DN := Lib.hid (downS_next (n := A) (L := L) cp hc.out)
          rw [pick_eq] at DN
          obtain ⟨db, hdb⟩ : ∃ db, db = downS A L c := ⟨_, rfl⟩
          obtain ⟨dm, hdm⟩ : ∃ dm, dm = cnt (downS A L c).testBit A := ⟨_, rfl⟩
          have DM := Lib.hid (show dm ≤ 14 by rw [hdm]; exact Nat.le_trans (cnt_le _ _) hfew)
          rw [← hdm, ← hdb] at DN ⊢
          have HB := Lib.hid hdb
          have HM := Lib.hid hdm
          clear hdb hdm h0
          go_wp2_with fail
          go_loopw [10, 11, 12] (fun s10 s11 s12 wx => ∃ k : Nat, k ≤ A ∧ s12 = .int .i64 k ∧ s10 = .int .i64 (cnt (fun a => c.testBit (A - 1 - a)) k : Nat) ∧ s11 = .bool (freesK A L c k) ∧ wx = wr) (fun _ _ s _ => A - (intOf s).toNat)
          case atStart => exact ⟨0, Nat.zero_le _, rfl, rfl, rfl, rfl⟩
          case round =>
            obtain ⟨k, hk, rfl, rfl, rfl, rfl⟩ := hrel
            by_cases hl2 : k < A
            · have e1 : IntKind.i64.wrap ((A : Int) - 1 - (k : Int)) = ((A - 1 - k : Nat) : Int) := by rw [IntWalk.i64_in _ (by omega)]; omega
              have e2 : (A : Int) - 1 - (k : Int) = ((A - 1 - k : Nat) : Int) := by omega
              have e3 := shr_bit (s := c) (A - 1 - k) (by have := C1.out; omega)
              have N1 := Lib.hid (show cnt (fun a => c.testBit (A - 1 - a)) (k + 1) = cnt (fun a => c.testBit (A - 1 - a)) k + if c.testBit (A - 1 - k) then 1 else 0 from rfl)
              have F1 := Lib.hid (freesK_succ A L c k)
              have B1 := Lib.hid (Nat.le_trans (cnt_le (fun a => c.testBit (A - 1 - a)) k) hk)
              generalize cnt (fun a => c.testBit (A - 1 - a)) k = q at N1 B1 ⊢
              have e5 : IntKind.i64.wrap ((q : Int) + 1) = (q : Int) + 1 := by have := B1.out; exact IntWalk.i64_in _ (by omega)
              generalize freesK A L c k = fk at F1 ⊢
              by_cases hb : c.testBit (A - 1 - k) = true
              · rw [if_pos hb] at e3
                have N2 := Lib.hid (show cnt (fun a => c.testBit (A - 1 - a)) (k + 1) = q + 1 by rw [N1.out, if_pos hb])
                obtain ⟨d1, _⟩ := Q2.out k hl2
                unfold iV at d1
                have lk := hL.out k
                have e4 := i64_and_nat (L k) c (by have := P14.out; omega) (by have := C1.out; omega)
                have x5 : (k : Int) < (A : Int) := by omega
                clear lk N1
                cases fk with
                | true =>
                  by_cases hz : L k &&& c = 0
                  · have F2 := Lib.hid (show freesK A L c (k + 1) = true by rw [F1.out, hz]; simp)
                    rw [hz] at e4
                    clear hb hz F1
                    go_wp2_with fail
                    go_roundw
                    case rel => exact ⟨k + 1, hl2, by go_num, by rw [N2.out]; go_num, by rw [F2.out], by trivial⟩
                    case measure => simp [intOf]; omega
                  · have F2 := Lib.hid (show freesK A L c (k + 1) = false by rw [F1.out, hb]; simp [hz])
                    have hz1 : ((((L k &&& c : Nat)) : Int) == 0) = false := by simpa using hz
                    clear hb hz F1
                    go_wp2_with fail
                    go_roundw
                    case rel => exact ⟨k + 1, hl2, by go_num, by rw [N2.out]; go_num, by rw [F2.out], by trivial⟩
                    case measure => simp [intOf]; omega
                | false =>
                  have F2 := Lib.hid (show freesK A L c (k + 1) = false by rw [F1.out]; rfl)
                  clear hb F1
                  go_wp2_with fail
                  go_roundw
                  case rel => exact ⟨k + 1, hl2, by go_num, by rw [N2.out]; go_num, by rw [F2.out], by trivial⟩
                  case measure => simp [intOf]; omega
              · rw [if_neg hb] at e3
                have N2 := Lib.hid (show cnt (fun a => c.testBit (A - 1 - a)) (k + 1) = q by rw [N1.out, if_neg hb]; rfl)
                have F2 := Lib.hid (show freesK A L c (k + 1) = fk by rw [F1.out]; simp [hb])
                clear hb F1 N1
                go_wp2_with fail
                go_roundw
                case rel => exact ⟨k + 1, hl2, by go_num, by rw [N2.out], by rw [F2.out], by trivial⟩
                case measure => simp [intOf]; omega
            · obtain rfl : k = A := by omega
              rw [freesK_end]
              have B1 := Lib.hid (cnt_le (fun a => c.testBit (k - 1 - a)) k)
              have CB := Lib.hid (show cnt c.testBit k = cnt (fun a => c.testBit (k - 1 - a)) k from (cnt_rev _ _).symm)
              generalize cnt (fun a => c.testBit (k - 1 - a)) k = q at DN B1 CB ⊢
              generalize frees k L c = fr at DN ⊢
              have W1 : IntKind.i64.wrap ((c : Int) - 1) = ((c - 1 : Nat) : Int) := by have := C1.out; rw [IntWalk.i64_in _ (by omega)]; omega
              by_cases hy : fr = true ∧ dm < q
              · obtain ⟨rfl, hy⟩ := hy
                rw [if_pos ⟨rfl, hy⟩] at DN
                go_wp2_with fail
                go_roundw
                case rel => exact ⟨c - 1, by first | rfl | go_num, (by have := hc.out; show _ < _; omega), by rw [DN.out], by rw [DN.out, CB.out], by trivial⟩
                case measure => simp [intOf]; omega
              · rw [if_neg hy] at DN
                have hy' : fr = false ∨ ¬ dm < q := by cases fr <;> simp_all
                have ED2 := Lib.hid (show cnt (downS k L (c - 1)).testBit k = dm by rw [DN.out, HB.out, HM.out])
                clear hy
                rcases hy' with rfl | hy
                · go_wp2_with fail
                  go_roundw
                  case rel => exact ⟨c - 1, by first | rfl | go_num, (by have := hc.out; show _ < _; omega), by rw [DN.out], by rw [ED2.out], by trivial⟩
                  case measure => simp [intOf]; omega
                · cases fr with
                  | true =>
                    go_wp2_with fail
                    go_roundw
                    case rel => exact ⟨c - 1, by first | rfl | go_num, (by have := hc.out; show _ < _; omega), by rw [DN.out], by rw [ED2.out], by trivial⟩
                    case measure => simp [intOf]; omega
                  | false =>
                    go_wp2_with fail
                    go_roundw
                    case rel => exact ⟨c - 1, by first | rfl | go_num, (by have := hc.out; show _ < _; omega), by rw [DN.out], by rw [ED2.out], by trivial⟩
                    case measure => simp [intOf]; omega

end Go.Proofs.YtjokheeegcilhaaDoor
