/- Contracts of chapter 5: Rests, of the program and of the reference. -/
import Derived.Test.YtbhndfnfohoidaaWB
import Derived.Test.YtbhndfnfohoidaaQB
import Derived.Deep.RegionHeld3
namespace Go.Proofs.Ytbhndfnfohoidaa
open Go.RowKit Go.Firn

theorem Try.info27 : (Try.prog.info? 27).map (fun i => (i.zero, i.size, i.bytes)) = some (some (.agg #[.int .i64 0, .int .i64 0]), 2, 16) := by kernel_rfl
/-- A rest in lowest terms. -/
def reN (X Y : Nat → Int) (A B D : Int) (i : Nat) : Int := rN (rs (X i) (Y i) A B D) D
def reD (X Y : Nat → Int) (A B D : Int) (i : Nat) : Int := rD (rs (X i) (Y i) A B D) D
def okM (E : Int) (l : List (Int × Int)) : List (Int × Int) := if E = 0 then l else []

set_option maxRecDepth 100000 in
set_option maxHeartbeats 2000000 in
theorem Rests_any (a : Option Addr) (n c : Nat) (X Y : Nat → Int) (A B D : Int) (w : World) (hn : n ≤ 1000) (hr : RdM w a n X Y) :
    Calls Try.prog 26 #[.slice a n c, .agg #[.int .i64 A, .int .i64 B, .int .i64 D]] w (RetMs (okM (asE n X Y A B D) (pairs n (reN X Y A B D) (reD X Y A B D))) (asE n X Y A B D) w) := by
  obtain ⟨W0, hW0⟩ : ∃ W0, (w.alloc (.cells #[.int .i64 A, .int .i64 B, .int .i64 D] 37)) = W0 := ⟨_, rfl⟩
  have G0 := Lib.hid (show Gr w W0 by rw [← hW0]; exact (Gr.refl w).alloc _)
  have B3 := Lib.hid (show Box3 W0 w.heap.size A B D by rw [← hW0]; exact Box3.new rfl)
  obtain ⟨l0, l1, l2, f0, f1, f2⟩ := B3.out
  have HA := Lib.hid (lined_any a n c X Y A B D W0 hn (hr.gr G0.out))
  by_cases he : asE n X Y A B D = 0
  case neg =>
    have e1 : okM (asE n X Y A B D) (pairs n (reN X Y A B D) (reD X Y A B D)) = [] := if_neg he
    rw [e1]
    clear e1 hr hn
    generalize asE n X Y A B D = E at *
    have d1 : (E != 0) = true := by simpa using he
    have d2 : (E == 0) = false := by simpa using he
    go_enter Try.func26, Try.ntmps26
    go_wp2_with (go_at_call 65; refine (HA.out).mono ?_; rintro e w1 ⟨rfl, g1⟩)
    exact bodyPost_ret (v := .tuple #[.slice none 0 0, .int .i64 E]) (by simp [results, Try.results26, go_sem]) rfl ((OwnM.nil' (G0.out.trans g1) 27).ret E)
  case pos =>
    obtain ⟨V, IL⟩ := asE_ok he
    have n12 := V.few
    rw [he] at HA
    rw [he]
    have e1 : okM 0 (pairs n (reN X Y A B D) (reD X Y A B D)) = pairs n (reN X Y A B D) (reD X Y A B D) := if_pos rfl
    rw [e1]
    clear e1 he
    have HR := Lib.hid hr
    have OK := Lib.hid V.ok
    have HL := Lib.hid IL
    have D1 := IL.2.2.1
    have D2 := IL.2.2.2
    clear hr V IL
    go_enter Try.func26, Try.ntmps26
    go_wp2_with (go_at_call 65; refine (HA.out).mono ?_; rintro e w1 ⟨rfl, g1⟩; have G1 := Lib.hid g1; clear g1)
    clear l0 l1 l2 f0 f1 f2
    go_loopw [7, 18] (fun so sk wr => ∃ k : Nat, k ≤ n ∧ sk = .int .i64 k ∧ OwnM W0 27 wr so (pairs k (reN X Y A B D) (reD X Y A B D))) (fun _ sk _ => n - (intOf sk).toNat)
    case atStart => exact ⟨0, Nat.zero_le _, rfl, OwnM.nil' G1.out 27⟩
    case round =>
      obtain ⟨k, hk, rfl, hown⟩ := hrel
      have hg := hown.2
      obtain ⟨l0, l1, l2, f0, f1, f2⟩ := B3.out.gr hg
      have lw : w.heap.size < wr.heap.size := World.block_lt_of_cell? wr _ l0
      by_cases hlt : k < n
      · obtain ⟨b, o, ea, hc⟩ := (HR.out.gr (G0.out.trans hg)).at hlt
        subst ea
        obtain ⟨c1, c2⟩ := hc k hlt
        have i1 : (k : Int) < n := by omega
        have RB := (rs_bd (OK.out k hlt) HL.out).2.2
        have C := Lib.hid (fun w' => rest_any (X k) (Y k) A B D w' (OK.out k hlt) HL.out)
        have CR := Lib.hid (show ∀ w', Calls Try.prog 66 #[.int .i64 (rs (X k) (Y k) A B D), .int .i64 D] w' (RetR (reN X Y A B D k) (reD X Y A B D k) w') from fun w' => ratio_any (rs (X k) (Y k) A B D) D w' (by unfold Sz; omega) (by unfold Sz; omega) (by omega))
        have PS := Lib.hid (pairs_succ k (reN X Y A B D) (reD X Y A B D))
        have hl : (pairs k (reN X Y A B D) (reD X Y A B D)).length < 1000000000 := by rw [pairs_length]; omega
        generalize rs (X k) (Y k) A B D = r at *
        generalize reN X Y A B D k = rn at *
        generalize reD X Y A B D k = rd at *
        generalize X k = xk at *
        generalize Y k = yk at *
        generalize pairs k (reN X Y A B D) (reD X Y A B D) = L at *
        clear hc RB
        have HO := Lib.hid hown
        obtain ⟨wp, hwp⟩ : ∃ wp, wr.alloc (.cells #[.int .i64 xk, .int .i64 yk] 56) = wp := ⟨_, rfl⟩
        have GP := Lib.hid (show Gr wr wp by rw [← hwp]; exact (Gr.refl wr).alloc _)
        obtain ⟨x0, x1, _, _⟩ := (show Box2 wp wr.heap.size xk yk by rw [← hwp]; exact Box2.new rfl)
        have y0 := GP.out.cell l0
        have y1 := GP.out.cell l1
        have y2 := GP.out.cell l2
        clear l0 l1 l2 f0 f1 f2
        go_wp2_with fail
        try rw [hwp]
        clear hwp
        go_region_held3 (fun w' => w'.cell? ⟨wr.heap.size, 0, none⟩ = some (.int .i64 xk) ∧ w'.cell? ⟨wr.heap.size, 1, none⟩ = some (.int .i64 yk) ∧ w'.cell? ⟨w.heap.size, 0, none⟩ = some (.int .i64 A) ∧ w'.cell? ⟨w.heap.size, 1, none⟩ = some (.int .i64 B) ∧ w'.cell? ⟨w.heap.size, 2, none⟩ = some (.int .i64 D))
          (first | exact ⟨u0, u1, u2, u3, u4⟩ | exact ⟨s0, s1, s2, s3, s4⟩ | exact ⟨t0, t1, t2, t3, t4⟩ | exact ⟨x0, x1, y0, y1, y2⟩ | go_keep)
          (first
            | (go_at_call 67; refine (C.out _).mono ?_; rintro e w1 ⟨rfl, g1⟩; (first | have O1 := Lib.hid ((HO.out.gr GP.out).gr g1) | have O1 := Lib.hid ((HO.out.gr GP.out).drew.gr g1)); have t0 := g1.cell x0; have t1 := g1.cell x1; have t2 := g1.cell y0; have t3 := g1.cell y1; have t4 := g1.cell y2)
            | (go_at_call 66; refine (CR.out _).mono ?_; rintro e w2 ⟨rfl, g2⟩; (first | have O2 := Lib.hid (O1.out.gr g2) | have O2 := Lib.hid (O1.out.drew.gr g2)); have s0 := g2.cell t0; have s1 := g2.cell t1; have s2 := g2.cell t2; have s3 := g2.cell t3; have s4 := g2.cell t4)
            | ((first | refine step_app_pair rfl _ _ 38 27 rfl Try.underlying38 Try.info27 _ L rfl (O2.out.alloc _) _ _ _ rfl (cell_new2 _ _ _ _) hl ?_ | refine step_app_pair rfl _ _ 38 27 rfl Try.underlying38 Try.info27 _ L rfl (O2.out.drew.alloc _) _ _ _ rfl (cell_new2 _ _ _ _) hl ?_); intro v1 w3 hown2 hgw; have u0 := hgw.cell (show _ from by first | exact ((Gr.refl w2).alloc _).cell s0 | exact ((Gr.refl w2).drew.alloc _).cell s0) (fun e => Nat.lt_irrefl _ (HO.out.1.lt _ e.symm).2); have u1 := hgw.cell (show _ from by first | exact ((Gr.refl w2).alloc _).cell s1 | exact ((Gr.refl w2).drew.alloc _).cell s1) (fun e => Nat.lt_irrefl _ (HO.out.1.lt _ e.symm).2); obtain ⟨u2, u3, u4, _, _, _⟩ := B3.out.gr hown2.2))
        rw [← PS.out] at hown2
        go_wp2_with fail
        go_roundw
        case rel => exact ⟨k + 1, by omega, by go_num, hown2⟩
        case measure => simp [intOf]; omega
      · obtain rfl : k = n := by omega
        go_wp2_with fail
        obtain ⟨a1, c1, rfl, h1, h2, h3⟩ := hown.rd
        exact bodyPost_ret (v := .tuple #[.slice a1 (pairs k (reN X Y A B D) (reD X Y A B D)).length c1, .int .i64 0]) (by simp [results, Try.results26, go_sem]) rfl ⟨a1, c1, rfl, h1, h2, h3, G0.out.trans hown.2⟩

set_option maxRecDepth 100000 in
set_option maxHeartbeats 2000000 in
theorem refRests_any (a : Option Addr) (n c : Nat) (X Y : Nat → Int) (A B D : Int) (w : World) (hn : n ≤ 1000) (hr : RdM w a n X Y) :
    Calls Try.prog 27 #[.slice a n c, .agg #[.int .i64 A, .int .i64 B, .int .i64 D]] w (RetMs (okM (asE n X Y A B D) (pairs n (reN X Y A B D) (reD X Y A B D))) (asE n X Y A B D) w) := by
  obtain ⟨W0, hW0⟩ : ∃ W0, (w.alloc (.cells #[.int .i64 A, .int .i64 B, .int .i64 D] 37)) = W0 := ⟨_, rfl⟩
  have G0 := Lib.hid (show Gr w W0 by rw [← hW0]; exact (Gr.refl w).alloc _)
  have B3 := Lib.hid (show Box3 W0 w.heap.size A B D by rw [← hW0]; exact Box3.new rfl)
  obtain ⟨l0, l1, l2, f0, f1, f2⟩ := B3.out
  have HA := Lib.hid (asked_any a n c X Y A B D W0 hn (hr.gr G0.out))
  by_cases he : asE n X Y A B D = 0
  case neg =>
    have e1 : okM (asE n X Y A B D) (pairs n (reN X Y A B D) (reD X Y A B D)) = [] := if_neg he
    rw [e1]
    clear e1 hr hn
    generalize asE n X Y A B D = E at *
    have d1 : (E != 0) = true := by simpa using he
    have d2 : (E == 0) = false := by simpa using he
    go_enter Try.func27, Try.ntmps27
    go_wp2_with (go_at_call 68; refine (HA.out).mono ?_; rintro e w1 ⟨rfl, g1⟩)
    exact bodyPost_ret (v := .tuple #[.slice none 0 0, .int .i64 E]) (by simp [results, Try.results27, go_sem]) rfl ((OwnM.nil' (G0.out.trans g1) 27).ret E)
  case pos =>
    obtain ⟨V, IL⟩ := asE_ok he
    have n12 := V.few
    rw [he] at HA
    rw [he]
    have e1 : okM 0 (pairs n (reN X Y A B D) (reD X Y A B D)) = pairs n (reN X Y A B D) (reD X Y A B D) := if_pos rfl
    rw [e1]
    clear e1 he
    have HR := Lib.hid hr
    have OK := Lib.hid V.ok
    have HL := Lib.hid IL
    have D1 := IL.2.2.1
    have D2 := IL.2.2.2
    clear hr V IL
    go_enter Try.func27, Try.ntmps27
    go_wp2_with (go_at_call 68; refine (HA.out).mono ?_; rintro e w1 ⟨rfl, g1⟩; have G1 := Lib.hid g1; clear g1)
    clear l0 l1 l2 f0 f1 f2
    go_loopw [7, 18] (fun so sk wr => ∃ k : Nat, k ≤ n ∧ sk = .int .i64 k ∧ OwnM W0 27 wr so (pairs k (reN X Y A B D) (reD X Y A B D))) (fun _ sk _ => n - (intOf sk).toNat)
    case atStart => exact ⟨0, Nat.zero_le _, rfl, OwnM.nil' G1.out 27⟩
    case round =>
      obtain ⟨k, hk, rfl, hown⟩ := hrel
      have hg := hown.2
      obtain ⟨l0, l1, l2, f0, f1, f2⟩ := B3.out.gr hg
      have lw : w.heap.size < wr.heap.size := World.block_lt_of_cell? wr _ l0
      by_cases hlt : k < n
      · obtain ⟨b, o, ea, hc⟩ := (HR.out.gr (G0.out.trans hg)).at hlt
        subst ea
        obtain ⟨c1, c2⟩ := hc k hlt
        have i1 : (k : Int) < n := by omega
        have RB := (rs_bd (OK.out k hlt) HL.out).2.2
        have C := Lib.hid (fun w' => refrest_any (X k) (Y k) A B D w' (OK.out k hlt) HL.out)
        have CR := Lib.hid (show ∀ w', Calls Try.prog 44 #[.int .i64 (rs (X k) (Y k) A B D), .int .i64 D] w' (RetR (reN X Y A B D k) (reD X Y A B D k) w') from fun w' => Ratio_any (rs (X k) (Y k) A B D) D w' (by unfold Sz; omega) (by unfold Sz; omega) (by omega))
        have PS := Lib.hid (pairs_succ k (reN X Y A B D) (reD X Y A B D))
        have hl : (pairs k (reN X Y A B D) (reD X Y A B D)).length < 1000000000 := by rw [pairs_length]; omega
        generalize rs (X k) (Y k) A B D = r at *
        generalize reN X Y A B D k = rn at *
        generalize reD X Y A B D k = rd at *
        generalize X k = xk at *
        generalize Y k = yk at *
        generalize pairs k (reN X Y A B D) (reD X Y A B D) = L at *
        clear hc RB
        have HO := Lib.hid hown
        obtain ⟨wp, hwp⟩ : ∃ wp, wr.alloc (.cells #[.int .i64 xk, .int .i64 yk] 56) = wp := ⟨_, rfl⟩
        have GP := Lib.hid (show Gr wr wp by rw [← hwp]; exact (Gr.refl wr).alloc _)
        obtain ⟨x0, x1, _, _⟩ := (show Box2 wp wr.heap.size xk yk by rw [← hwp]; exact Box2.new rfl)
        have y0 := GP.out.cell l0
        have y1 := GP.out.cell l1
        have y2 := GP.out.cell l2
        clear l0 l1 l2 f0 f1 f2
        go_wp2_with fail
        try rw [hwp]
        clear hwp
        go_region_held3 (fun w' => w'.cell? ⟨wr.heap.size, 0, none⟩ = some (.int .i64 xk) ∧ w'.cell? ⟨wr.heap.size, 1, none⟩ = some (.int .i64 yk) ∧ w'.cell? ⟨w.heap.size, 0, none⟩ = some (.int .i64 A) ∧ w'.cell? ⟨w.heap.size, 1, none⟩ = some (.int .i64 B) ∧ w'.cell? ⟨w.heap.size, 2, none⟩ = some (.int .i64 D))
          (first | exact ⟨u0, u1, u2, u3, u4⟩ | exact ⟨s0, s1, s2, s3, s4⟩ | exact ⟨t0, t1, t2, t3, t4⟩ | exact ⟨x0, x1, y0, y1, y2⟩ | go_keep)
          (first
            | (go_at_call 69; refine (C.out _).mono ?_; rintro e w1 ⟨rfl, g1⟩; (first | have O1 := Lib.hid ((HO.out.gr GP.out).gr g1) | have O1 := Lib.hid ((HO.out.gr GP.out).drew.gr g1)); have t0 := g1.cell x0; have t1 := g1.cell x1; have t2 := g1.cell y0; have t3 := g1.cell y1; have t4 := g1.cell y2)
            | (go_at_call 44; refine (CR.out _).mono ?_; rintro e w2 ⟨rfl, g2⟩; (first | have O2 := Lib.hid (O1.out.gr g2) | have O2 := Lib.hid (O1.out.drew.gr g2)); have s0 := g2.cell t0; have s1 := g2.cell t1; have s2 := g2.cell t2; have s3 := g2.cell t3; have s4 := g2.cell t4)
            | ((first | refine step_app_pair rfl _ _ 38 27 rfl Try.underlying38 Try.info27 _ L rfl (O2.out.alloc _) _ _ _ rfl (cell_new2 _ _ _ _) hl ?_ | refine step_app_pair rfl _ _ 38 27 rfl Try.underlying38 Try.info27 _ L rfl (O2.out.drew.alloc _) _ _ _ rfl (cell_new2 _ _ _ _) hl ?_); intro v1 w3 hown2 hgw; have u0 := hgw.cell (show _ from by first | exact ((Gr.refl w2).alloc _).cell s0 | exact ((Gr.refl w2).drew.alloc _).cell s0) (fun e => Nat.lt_irrefl _ (HO.out.1.lt _ e.symm).2); have u1 := hgw.cell (show _ from by first | exact ((Gr.refl w2).alloc _).cell s1 | exact ((Gr.refl w2).drew.alloc _).cell s1) (fun e => Nat.lt_irrefl _ (HO.out.1.lt _ e.symm).2); obtain ⟨u2, u3, u4, _, _, _⟩ := B3.out.gr hown2.2))
        rw [← PS.out] at hown2
        go_wp2_with fail
        go_roundw
        case rel => exact ⟨k + 1, by omega, by go_num, hown2⟩
        case measure => simp [intOf]; omega
      · obtain rfl : k = n := by omega
        go_wp2_with fail
        obtain ⟨a1, c1, rfl, h1, h2, h3⟩ := hown.rd
        exact bodyPost_ret (v := .tuple #[.slice a1 (pairs k (reN X Y A B D) (reD X Y A B D)).length c1, .int .i64 0]) (by simp [results, Try.results27, go_sem]) rfl ⟨a1, c1, rfl, h1, h2, h3, G0.out.trans hown.2⟩

end Go.Proofs.Ytbhndfnfohoidaa
