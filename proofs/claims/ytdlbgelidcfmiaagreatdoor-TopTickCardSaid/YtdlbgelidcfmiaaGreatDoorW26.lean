/- Contracts of chapter 1: Straight, of the program and of the reference. -/
import Derived.Test.YtdlbgelidcfmiaaGreatDoorW25
namespace Go.Proofs.YtdlbgelidcfmiaaGreatDoor
open Go.RowKit Go.Firn

/-- Does the clock keep its mark k, and the marks that it keeps of the first k. -/
def stK (n : Nat) (L T : Nat → Int) (i : Nat) : Bool := decide (i = 0) || decide (i = n - 1) || !(decide (sF L T (i - 1) = sF L T i) && decide (sG L T (i - 1) = sG L T i))
def stL (n : Nat) (L T : Nat → Int) (k : Nat) : List (Int × Int) := ((List.range k).filter (stK n L T)).map fun i => (L i, T i)
theorem stL_yes {n k : Nat} {L T : Nat → Int} (h : stK n L T k = true) : stL n L T (k + 1) = stL n L T k ++ [(L k, T k)] := by
  simp [stL, List.range_succ, List.filter_append, h]
theorem stL_no {n k : Nat} {L T : Nat → Int} (h : stK n L T k = false) : stL n L T (k + 1) = stL n L T k := by
  simp [stL, List.range_succ, List.filter_append, h]
theorem stL_len (n : Nat) (L T : Nat → Int) (k : Nat) : (stL n L T k).length ≤ k := by
  have := List.length_filter_le (stK n L T) (List.range k)
  simp [stL] at *
  omega

set_option maxRecDepth 100000 in
set_option maxHeartbeats 2000000 in
theorem Straight_any (a : Option Addr) (n c : Nat) (L T : Nat → Int) (w : World) (hn : n ≤ 9223372036854775807) (hr : RdM w a n L T) :
    Calls Tryz.prog 11 #[.slice a n c] w (RetMs (okL (vK n L T) true (stL n L T n)) (okE (vK n L T) true) w) := by
  cases hv : vK n L T with
  | false =>
    have Hv := Lib.hid hv
    clear hv
    go_enter Tryz.func11, Tryz.ntmps11
    go_wp2_with fail
    refine (ValidClock_any a n c L T _ hn hr).mono ?_
    rintro e w1 ⟨rfl, g⟩
    rw [Hv.out]
    go_wp2_with fail
    go_ret2
    exact (OwnM.nil' g 55).ret 11
  | true =>
    have Hv := Lib.hid hv
    obtain ⟨hn2, hn30, -, -⟩ := vK_true.1 hv
    have SP := Lib.hid (fun (k : Nat) (h1 : 1 ≤ k) (hk : k < n) wz => speed_at hv h1 hk wz)
    have SQ := Lib.hid (fun (k : Nat) (hk : k + 1 < n) wz => speed_at hv (k := k + 1) (by omega) hk wz)
    simp only [Nat.add_sub_cancel] at SQ
    clear hv
    obtain ⟨b, o, rfl, hc⟩ := hr.at (k := 0) (by omega)
    have Hc := Lib.hid hc
    clear hc
    go_enter Tryz.func11, Tryz.ntmps11
    go_wp2_with fail
    refine (ValidClock_any _ n c L T _ hn hr).mono ?_
    rintro e w1 ⟨rfl, g⟩
    rw [Hv.out]
    clear hr
    go_wp2_with fail
    go_loopw [4, 5, 6, 12] (fun out _ _ i wr => ∃ k : Nat, k ≤ n ∧ i = .int .i64 k ∧ OwnM w 55 wr out (stL n L T k)) (fun _ _ _ i _ => n - (intOf i).toNat)
    case atStart => exact ⟨0, by omega, rfl, OwnM.nil' g _⟩
    case round =>
      obtain ⟨k, hk, rfl, hown⟩ := hrel
      by_cases hlt : k < n
      · have i1 : (k : Int) < n := by omega
        have i2 : IntKind.i64.wrap ((n : Int) - 1) = (n : Int) - 1 := IntWalk.i64_in _ (by omega)
        have hl : (stL n L T k).length < 1000000000 := by have := stL_len n L T k; omega
        have c1 := hown.2.cell (Hc.out k hlt).1
        have c2 := hown.2.cell (Hc.out k hlt).2
        have own1 := hown.alloc (.cells #[.int .i64 (L k), .int .i64 (T k)] 55)
        have X : Hid (Box2 (wr.alloc (.cells #[.int .i64 (L k), .int .i64 (T k)] 55)) wr.heap.size (L k) (T k)) := Lib.hid (Box2.new rfl)
        go_upto_region 7 with (fail)
        generalize wr.heap.size = b6 at *
        generalize wr.alloc (.cells #[.int .i64 (L k), .int .i64 (T k)] 55) = wm at *
        clear c1 c2 hown
        go_cut [44] from 13 to 49 (fun s44 wx => s44 = .bool (stK n L T k) ∧ Gr wm wx)
        case first =>
          by_cases h0 : k = 0
          · have d1 : ((k : Int) == 0) = true := by simp; omega
            have V := Lib.hid (show stK n L T k = true by simp [stK, h0])
            clear h0
            go_quiet (fail)
            go_wp2_with fail
            go_meet
            rw [V.out]
            exact ⟨rfl, (Gr.refl wm).drewN _⟩
          · by_cases h1 : k = n - 1
            · have d1 : ((k : Int) == 0) = false := by simp; omega
              have d2 : ((k : Int) == (n : Int) - 1) = true := by simp; omega
              have V := Lib.hid (show stK n L T k = true by simp [stK, h1])
              clear h0 h1
              go_quiet (fail)
              go_wp2_with fail
              go_meet
              rw [V.out]
              exact ⟨rfl, (Gr.refl wm).drewN _⟩
            · have d1 : ((k : Int) == 0) = false := by simp; omega
              have d2 : ((k : Int) == (n : Int) - 1) = false := by simp; omega
              have V := Lib.hid (show stK n L T k = !(decide (sF L T (k - 1) = sF L T k) && decide (sG L T (k - 1) = sG L T k)) by simp [stK, h0, h1])
              have hk1 : 1 ≤ k := by omega
              have hk2 : k - 1 < n := by omega
              have hk3 : k + 1 < n := by omega
              have i3 : (0 : Int) ≤ (k : Int) - 1 := by omega
              have i33 : (1 : Int) ≤ (k : Int) := by omega
              have i4 : (k : Int) - 1 < n := by omega
              have i5 : IntKind.i64.wrap ((k : Int) - 1) = (k : Int) - 1 := IntWalk.i64_in _ (by omega)
              have i6 : ((k : Int) - 1).toNat = k - 1 := by omega
              have i7 : (0 : Int) ≤ (k : Int) + 1 := by omega
              have i8 : (k : Int) + 1 < n := by omega
              have i9 : IntKind.i64.wrap ((k : Int) + 1) = (k : Int) + 1 := IntWalk.i64_in _ (by omega)
              have i10 : ((k : Int) + 1).toNat = k + 1 := by omega
              have c3 := own1.2.cell (Hc.out (k - 1) hk2).1
              have c4 := own1.2.cell (Hc.out (k - 1) hk2).2
              have c5 := own1.2.cell (Hc.out (k + 1) hk3).1
              have c6 := own1.2.cell (Hc.out (k + 1) hk3).2
              obtain ⟨c1, c2, -, -⟩ := X.out
              have S1 := Lib.hid (fun wz => SP.out k hk1 hlt wz)
              have S2 := Lib.hid (fun wz => SQ.out k hk3 wz)
              have GM := Gr.refl wm
              clear h0 h1 hk1
              generalize sF L T (k - 1) = u at *
              generalize sG L T (k - 1) = v at *
              generalize sF L T k = p at *
              generalize sG L T k = q at *
              by_cases hu : u = p
              · by_cases hq : v = q
                · subst hu hq
                  have V2 := Lib.hid (show stK n L T k = false by rw [V.out]; simp)
                  clear V
                  go_region_held3 (fun w' => w'.cell? ⟨b, o + (k - 1) * 2, none⟩ = some (.int .i64 (L (k - 1))) ∧ w'.cell? ⟨b, o + (k - 1) * 2 + 1, none⟩ = some (.int .i64 (T (k - 1))) ∧ w'.cell? ⟨b, o + (k + 1) * 2, none⟩ = some (.int .i64 (L (k + 1))) ∧ w'.cell? ⟨b, o + (k + 1) * 2 + 1, none⟩ = some (.int .i64 (T (k + 1))) ∧ w'.cell? ⟨b6, 0, none⟩ = some (.int .i64 (L k)) ∧ w'.cell? ⟨b6, 1, none⟩ = some (.int .i64 (T k)))
                    (first | go_keep | exact ⟨e3, e4, e5, e6, e1, e2⟩)
                    (first
                      | (go_at_call 28
                         first
                           | ((with_reducible refine (S1.out _).mono ?_); rintro e w2 ⟨rfl, g2⟩)
                           | ((with_reducible refine (S2.out _).mono ?_); rintro e w2 ⟨rfl, g2⟩)
                         first
                           | (have e1 := g2.cell e1; have e2 := g2.cell e2; have e3 := g2.cell e3; have e4 := g2.cell e4; have e5 := g2.cell e5; have e6 := g2.cell e6; have G2 := G2.trans g2)
                           | (have e1 := g2.cell c1; have e2 := g2.cell c2; have e3 := g2.cell c3; have e4 := g2.cell c4; have e5 := g2.cell c5; have e6 := g2.cell c6; have G2 := (GM.drew).trans g2)))
                  all_goals go_wp2_with fail
                  all_goals go_meet
                  all_goals (rw [V2.out]; exact ⟨rfl, G2⟩)
                · subst hu
                  have V2 := Lib.hid (show stK n L T k = true by rw [V.out]; simp [hq])
                  have h1 : (v == q) = false := by simp [hq]
                  have h2 : (v != q) = true := by simp [hq]
                  have h3 : decide (v = q) = false := by simp [hq]
                  clear V
                  go_region_held3 (fun w' => w'.cell? ⟨b, o + (k - 1) * 2, none⟩ = some (.int .i64 (L (k - 1))) ∧ w'.cell? ⟨b, o + (k - 1) * 2 + 1, none⟩ = some (.int .i64 (T (k - 1))) ∧ w'.cell? ⟨b, o + (k + 1) * 2, none⟩ = some (.int .i64 (L (k + 1))) ∧ w'.cell? ⟨b, o + (k + 1) * 2 + 1, none⟩ = some (.int .i64 (T (k + 1))) ∧ w'.cell? ⟨b6, 0, none⟩ = some (.int .i64 (L k)) ∧ w'.cell? ⟨b6, 1, none⟩ = some (.int .i64 (T k)))
                    (first | go_keep | exact ⟨e3, e4, e5, e6, e1, e2⟩)
                    (first
                      | (go_at_call 28
                         first
                           | ((with_reducible refine (S1.out _).mono ?_); rintro e w2 ⟨rfl, g2⟩)
                           | ((with_reducible refine (S2.out _).mono ?_); rintro e w2 ⟨rfl, g2⟩)
                         first
                           | (have e1 := g2.cell e1; have e2 := g2.cell e2; have e3 := g2.cell e3; have e4 := g2.cell e4; have e5 := g2.cell e5; have e6 := g2.cell e6; have G2 := G2.trans g2)
                           | (have e1 := g2.cell c1; have e2 := g2.cell c2; have e3 := g2.cell c3; have e4 := g2.cell c4; have e5 := g2.cell c5; have e6 := g2.cell c6; have G2 := (GM.drew).trans g2)))
                  all_goals go_wp2_with fail
                  all_goals go_meet
                  all_goals (rw [V2.out]; exact ⟨rfl, G2⟩)
              · have V2 := Lib.hid (show stK n L T k = true by rw [V.out]; simp [hu])
                have h1 : (u == p) = false := by simp [hu]
                have h2 : (u != p) = true := by simp [hu]
                have h3 : decide (u = p) = false := by simp [hu]
                clear V
                go_region_held3 (fun w' => w'.cell? ⟨b, o + (k - 1) * 2, none⟩ = some (.int .i64 (L (k - 1))) ∧ w'.cell? ⟨b, o + (k - 1) * 2 + 1, none⟩ = some (.int .i64 (T (k - 1))) ∧ w'.cell? ⟨b, o + (k + 1) * 2, none⟩ = some (.int .i64 (L (k + 1))) ∧ w'.cell? ⟨b, o + (k + 1) * 2 + 1, none⟩ = some (.int .i64 (T (k + 1))) ∧ w'.cell? ⟨b6, 0, none⟩ = some (.int .i64 (L k)) ∧ w'.cell? ⟨b6, 1, none⟩ = some (.int .i64 (T k)))
                  (first | go_keep | exact ⟨e3, e4, e5, e6, e1, e2⟩)
                  (first
                    | (go_at_call 28
                       first
                         | ((with_reducible refine (S1.out _).mono ?_); rintro e w2 ⟨rfl, g2⟩)
                         | ((with_reducible refine (S2.out _).mono ?_); rintro e w2 ⟨rfl, g2⟩)
                       first
                         | (have e1 := g2.cell e1; have e2 := g2.cell e2; have e3 := g2.cell e3; have e4 := g2.cell e4; have e5 := g2.cell e5; have e6 := g2.cell e6; have G2 := G2.trans g2)
                         | (have e1 := g2.cell c1; have e2 := g2.cell c2; have e3 := g2.cell c3; have e4 := g2.cell c4; have e5 := g2.cell c5; have e6 := g2.cell c6; have G2 := (GM.drew).trans g2)))
                all_goals go_wp2_with fail
                all_goals go_meet
                all_goals (rw [V2.out]; exact ⟨rfl, G2⟩)
        case rest =>
          obtain ⟨rfl, gx⟩ := hcut
          have own2 := own1.gr gx
          obtain ⟨x0, x1, -, -⟩ := X.out.gr gx
          clear own1 X gx
          cases hb : stK n L T k with
          | true =>
            have HB := Lib.hid hb
            clear hb
            go_wp2_with (at_builtin; go_must (refine wpList_app_pair rfl _ _ 23 55 rfl Tryz.underlying23 Tryz.info55 _ (stL n L T k) rfl (own2.alloc _) _ _ _ rfl (cell_new2 _ _ _ _) hl ?_); intro v1 w3 own3 _)
            rw [← stL_yes HB.out] at own3
            go_roundw
            case rel => exact ⟨k + 1, by omega, by go_num, own3⟩
            case measure => simp [intOf]; omega
          | false =>
            rw [← stL_no hb] at own2
            clear hb
            go_wp2_with fail
            go_roundw
            case rel => exact ⟨k + 1, by omega, by go_num, own2⟩
            case measure => simp [intOf]; omega
      · have : k = n := by omega
        subst this
        go_wp2_with fail
        go_ret2
        exact hown.ret 0

end Go.Proofs.YtdlbgelidcfmiaaGreatDoor
