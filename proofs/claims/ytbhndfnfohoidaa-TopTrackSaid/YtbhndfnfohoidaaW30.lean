/- Contracts of chapter 5: the line through the middle of two points of one X, of the program. -/
import Derived.Test.YtbhndfnfohoidaaPA
import Derived.Test.YtbhndfnfohoidaaRhe
import Derived.Test.YtbhndfnfohoidaaWA
import Derived.BigQuiet
namespace Go.Proofs.Ytbhndfnfohoidaa
open Go.RowKit Go.Firn

theorem bsd_bd {n : Nat} {X Y : Nat → Int} (ok : ∀ i, i < n → InP (X i) (Y i)) {x0 wd mid : Int} (h0 : -100 ≤ x0 ∧ x0 ≤ 100) (hw : 0 ≤ wd ∧ wd ≤ 2000) (hm : -2000 ≤ mid ∧ mid ≤ 2000) {k : Nat} (hk : k ≤ n) :
    (-6000 ≤ (bsd X Y x0 wd mid k).N ∧ (bsd X Y x0 wd mid k).N ≤ 6000) ∧ 0 ≤ (bsd X Y x0 wd mid k).D ∧ (bsd X Y x0 wd mid k).D ≤ 400 := by
  rcases bsd_spec X Y x0 wd mid k with ⟨e, _⟩ | ⟨q, hq, hne, e, _⟩
  · rw [e]; simp only; omega
  · have b := bn_bd h0 (ok q (by omega)) hw hm
    have pp := bd_pos hne
    have := rD_le (bn x0 wd mid (X q) (Y q)) pp
    have := rD_pos (bn x0 wd mid (X q) (Y q)) pp
    have := rN_abs (n := bn x0 wd mid (X q) (Y q)) pp
    rw [e]
    simp only
    omega

set_option maxHeartbeats 4000000 in
set_option maxRecDepth 100000 in
theorem beside_any (a : Option Addr) (n c : Nat) (X Y : Nat → Int) (x0 y0 x1 y1 : Int) (V : VP n X Y) (h0 : -100 ≤ x0 ∧ x0 ≤ 100) (h1 : -1000 ≤ y0 ∧ y0 ≤ 1000) (h2 : -1000 ≤ y1 ∧ y1 ≤ 1000) (w : World) (hr : RdM w a n X Y) :
    Calls Try.prog 93 #[.slice a n c, .agg #[.int .i64 x0, .int .i64 y0], .agg #[.int .i64 x1, .int .i64 y1]] w (RetL (beL n X Y x0 y0 y1).A (beL n X Y x0 y0 y1).B (beL n X Y x0 y0 y1).D w) := by
  obtain ⟨W0, hW0⟩ : ∃ W0, ((w.alloc (.cells #[.int .i64 x0, .int .i64 y0] 56)).alloc (.cells #[.int .i64 x1, .int .i64 y1] 56)).alloc (.cells #[.int .i64 0, .int .i64 0, .int .i64 0] 37) = W0 := ⟨_, rfl⟩
  have S0 : W0.heap.size = w.heap.size + 3 := by rw [← hW0]; simp
  have G0 := Lib.hid (show Gr w W0 by rw [← hW0]; exact (((Gr.refl w).alloc _).alloc _).alloc _)
  have B4 := Lib.hid (show Box2 W0 w.heap.size x0 y0 by rw [← hW0]; exact (Box2.new rfl).gr (((Gr.refl _).alloc _).alloc _))
  have B5 := Lib.hid (show Box2 W0 (w.heap.size + 1) x1 y1 by rw [← hW0]; exact (Box2.new (by simp)).gr ((Gr.refl _).alloc _))
  have B6 := Lib.hid (show Box3 W0 (w.heap.size + 1 + 1) 0 0 0 by rw [← hW0]; exact Box3.new (by simp))
  have HV := Lib.hid V
  have HR := Lib.hid hr
  have n12 := V.few
  have hw := ab_cases (y0 - y1)
  have CA := Lib.hid (fun w' => abs_any (y0 - y1) w' (by unfold Sz; omega))
  have HB := Lib.hid (show beL n X Y x0 y0 y1 = mkL (2 * (bsd X Y x0 (ab (y0 - y1)) (y0 + y1) n).N) ((y0 + y1) * (bsd X Y x0 (ab (y0 - y1)) (y0 + y1) n).D - 2 * (bsd X Y x0 (ab (y0 - y1)) (y0 + y1) n).N * x0) (2 * (bsd X Y x0 (ab (y0 - y1)) (y0 + y1) n).D) from rfl)
  obtain ⟨l0, l1, _, _⟩ := B4.out
  obtain ⟨m0, m1, _, _⟩ := B5.out
  have hwd : 0 ≤ ab (y0 - y1) ∧ ab (y0 - y1) ≤ 2000 := by omega
  have hmd : -2000 ≤ y0 + y1 ∧ y0 + y1 ≤ 2000 := by omega
  rw [HB.out]
  clear hr V hw HB
  generalize ab (y0 - y1) = wd at *
  obtain ⟨mid, hmid⟩ : ∃ m, y0 + y1 = m := ⟨_, rfl⟩
  obtain ⟨yd, hyd⟩ : ∃ m, y0 - y1 = m := ⟨_, rfl⟩
  rw [hmid] at hmd ⊢
  rw [hyd] at CA
  have q1 : IntKind.i64.wrap (y0 + y1) = mid := by rw [← hmid]; exact IntWalk.i64_in _ (by omega)
  have q2 : IntKind.i64.wrap (y0 - y1) = yd := by rw [← hyd]; exact IntWalk.i64_in _ (by omega)
  clear hmid hyd
  go_enter Try.func93, Try.ntmps93
  go_wp2_with fail
  refine (wpIn_wide (n := 3)).1 ?_
  refine wpIn_region_held (fun w' => Gr W0 w') 13 (by kernel_rfl) rfl rfl ?_
  have hS : Gr W0 W0.drew := (Gr.refl W0).drew
  iterate 10 (first
    | (refine wpAnyHIn_take 0 (v := ?_) rfl (by kernel_rfl) (by kernel_rfl) (by kernel_rfl) (by decide +kernel) (fun _ _ _ h => h) (fun _ _ _ => trivial) (by rfl) (fun w' hSw => ?_) hS ?_; rotate_left 1; (focus (have z0 := hSw.cell l0; have z1 := hSw.cell l1; have z2 := hSw.cell m0; have z3 := hSw.cell m1; go_simp; try with_reducible rfl)); simp only [Act.put, List.setIfInBounds_toArray, List.set_cons_zero, List.set_cons_succ])
    | (refine wpAnyHIn_take 1 (v := ?_) rfl (by kernel_rfl) (by kernel_rfl) (by kernel_rfl) (by decide +kernel) (fun _ _ _ h => h) (fun _ _ _ => trivial) (by rfl) (fun w' hSw => ?_) hS ?_; rotate_left 1; (focus (have z0 := hSw.cell l0; have z1 := hSw.cell l1; have z2 := hSw.cell m0; have z3 := hSw.cell m1; go_simp; try with_reducible rfl)); simp only [Act.put, List.setIfInBounds_toArray, List.set_cons_zero, List.set_cons_succ])
    | (refine wpAnyHIn_take 2 (v := ?_) rfl (by kernel_rfl) (by kernel_rfl) (by kernel_rfl) (by decide +kernel) (fun _ _ _ h => h) (fun _ _ _ => trivial) (by rfl) (fun w' hSw => ?_) hS ?_; rotate_left 1; (focus (have z0 := hSw.cell l0; have z1 := hSw.cell l1; have z2 := hSw.cell m0; have z3 := hSw.cell m1; go_simp; try with_reducible rfl)); simp only [Act.put, List.setIfInBounds_toArray, List.set_cons_zero, List.set_cons_succ])
    | (refine wpAnyHIn_take 3 (v := ?_) rfl (by kernel_rfl) (by kernel_rfl) (by kernel_rfl) (by decide +kernel) (fun _ _ _ h => h) (fun _ _ _ => trivial) (by rfl) (fun w' hSw => ?_) hS ?_; rotate_left 1; (focus (have z0 := hSw.cell l0; have z1 := hSw.cell l1; have z2 := hSw.cell m0; have z3 := hSw.cell m1; go_simp; try with_reducible rfl)); simp only [Act.put, List.setIfInBounds_toArray, List.set_cons_zero, List.set_cons_succ])
    | (refine wpAnyHIn_take 4 (v := ?_) rfl (by kernel_rfl) (by kernel_rfl) (by kernel_rfl) (by decide +kernel) (fun _ _ _ h => h) (fun _ _ _ => trivial) (by rfl) (fun w' hSw => ?_) hS ?_; rotate_left 1; (focus (have z0 := hSw.cell l0; have z1 := hSw.cell l1; have z2 := hSw.cell m0; have z3 := hSw.cell m1; go_simp; try with_reducible rfl)); simp only [Act.put, List.setIfInBounds_toArray, List.set_cons_zero, List.set_cons_succ])
    | (refine wpAnyHIn_take 5 (v := ?_) rfl (by kernel_rfl) (by kernel_rfl) (by kernel_rfl) (by decide +kernel) (fun _ _ _ h => h) (fun _ _ _ => trivial) (by rfl) (fun w' hSw => ?_) hS ?_; rotate_left 1; (focus (have z0 := hSw.cell l0; have z1 := hSw.cell l1; have z2 := hSw.cell m0; have z3 := hSw.cell m1; go_simp; try with_reducible rfl)); simp only [Act.put, List.setIfInBounds_toArray, List.set_cons_zero, List.set_cons_succ])
    | (refine wpAnyHIn_take 6 (v := ?_) rfl (by kernel_rfl) (by kernel_rfl) (by kernel_rfl) (by decide +kernel) (fun _ _ _ h => h) (fun _ _ _ => trivial) (by rfl) (fun w' hSw => ?_) hS ?_; rotate_left 1; (focus (have z0 := hSw.cell l0; have z1 := hSw.cell l1; have z2 := hSw.cell m0; have z3 := hSw.cell m1; go_simp; try with_reducible rfl)); simp only [Act.put, List.setIfInBounds_toArray, List.set_cons_zero, List.set_cons_succ])
    | (refine wpAnyHIn_take 7 (v := ?_) rfl (by kernel_rfl) (by kernel_rfl) (by kernel_rfl) (by decide +kernel) (fun _ _ _ h => h) (fun _ _ _ => trivial) (by rfl) (fun w' hSw => ?_) hS ?_; rotate_left 1; (focus (have z0 := hSw.cell l0; have z1 := hSw.cell l1; have z2 := hSw.cell m0; have z3 := hSw.cell m1; go_simp; try with_reducible rfl)); simp only [Act.put, List.setIfInBounds_toArray, List.set_cons_zero, List.set_cons_succ])
    | (refine wpAnyHIn_take 8 (v := ?_) rfl (by kernel_rfl) (by kernel_rfl) (by kernel_rfl) (by decide +kernel) (fun _ _ _ h => h) (fun _ _ _ => trivial) (by rfl) (fun w' hSw => ?_) hS ?_; rotate_left 1; (focus (have z0 := hSw.cell l0; have z1 := hSw.cell l1; have z2 := hSw.cell m0; have z3 := hSw.cell m1; go_simp; try with_reducible rfl)); simp only [Act.put, List.setIfInBounds_toArray, List.set_cons_zero, List.set_cons_succ])
    | (refine wpAnyHIn_take 9 (v := ?_) rfl (by kernel_rfl) (by kernel_rfl) (by kernel_rfl) (by decide +kernel) (fun _ _ _ h => h) (fun _ _ _ => trivial) (by rfl) (fun w' hSw => ?_) hS ?_; rotate_left 1; (focus (have z0 := hSw.cell l0; have z1 := hSw.cell l1; have z2 := hSw.cell m0; have z3 := hSw.cell m1; go_simp; try with_reducible rfl)); simp only [Act.put, List.setIfInBounds_toArray, List.set_cons_zero, List.set_cons_succ]))
  refine wpAnyHIn_ready [10] (by kernel_rfl) (by simp) ?_
  refine AllHIn.cons rfl (by rfl) (fun K hK => ?_) AllHIn.nil
  go_simp
  refine ⟨trivial, ?_⟩
  refine (callsIn_wide.2 (CA.out _)).mono ?_
  rintro e wX ⟨rfl, rfl⟩
  refine hK.out _ _ hS ?_
  clear hK K
  iterate 2 (first
    | (refine wpAnyHIn_take 11 (v := ?_) rfl (by kernel_rfl) (by kernel_rfl) (by kernel_rfl) (by decide +kernel) (fun _ _ _ h => h) (fun _ _ _ => trivial) (by rfl) (fun w' hSw => ?_) hS ?_; rotate_left 1; (focus (skip; go_simp; try with_reducible rfl)); simp only [Act.put, List.setIfInBounds_toArray, List.set_cons_zero, List.set_cons_succ])
    | (refine wpAnyHIn_take 12 (v := ?_) rfl (by kernel_rfl) (by kernel_rfl) (by kernel_rfl) (by decide +kernel) (fun _ _ _ h => h) (fun _ _ _ => trivial) (by rfl) (fun w' hSw => ?_) hS ?_; rotate_left 1; (focus (skip; go_simp; try with_reducible rfl)); simp only [Act.put, List.setIfInBounds_toArray, List.set_cons_zero, List.set_cons_succ]))
  refine wpAnyHIn_done (by kernel_rfl) ?_ _
  clear hS CA hW0
  go_wp2_with fail
  generalize hW1 : W0.alloc (.cells #[.int .i64 0, .int .i64 0] 27) = W1 at *
  have G1 := Lib.hid (show Gr w W1.drew by rw [← hW1]; exact (G0.out.alloc _).drew)
  have B9 := Lib.hid (show Box2 W1.drew (w.heap.size + 3) 0 0 by rw [← hW1]; exact Box2.drew (Box2.new S0))
  have B4 := Lib.hid (show Box2 W1.drew w.heap.size x0 y0 by rw [← hW1]; exact Box2.drew (B4.out.gr ((Gr.refl _).alloc _)))
  have B6 := Lib.hid (show Box3 W1.drew (w.heap.size + 1 + 1) 0 0 0 by rw [← hW1]; exact B6.out.gr (((Gr.refl _).alloc _).drew))
  clear hW1 S0 l0 l1 m0 m1 B5 q1 q2
  generalize W1.drew = W2 at *
  go_loopw [28] (fun s28 wr => ∃ k : Nat, k ≤ n ∧ s28 = .int .i64 k ∧ Hid (Gr w wr) ∧ Hid (Box2 wr (w.heap.size + 3) (bsd X Y x0 wd mid k).N (bsd X Y x0 wd mid k).D) ∧ Hid (Box2 wr w.heap.size x0 y0) ∧ Hid (Box3 wr (w.heap.size + 1 + 1) 0 0 0)) (fun s28 _ => n - (intOf s28).toNat)
  case atStart => exact ⟨0, Nat.zero_le _, rfl, G1, B9, B4, B6⟩
  case round =>
    obtain ⟨k, hk, rfl, GG, H9, H4, H6⟩ := hrel
    have BB := bsd_bd HV.out.ok h0 hwd hmd hk
    by_cases hlt : k < n
    · obtain ⟨b, o, rfl, hcc⟩ := (HR.out.gr GG.out).at hlt
      obtain ⟨c0, c1⟩ := hcc k hlt
      obtain ⟨l0, l1, _, _⟩ := H4.out
      obtain ⟨p0, p1, p2, p3⟩ := H9.out
      have lw : w.heap.size < wr.heap.size := World.block_lt_of_cell? wr _ l0
      have l9 : w.heap.size + 3 < wr.heap.size := World.block_lt_of_cell? wr _ p0
      have i1 : (k : Int) < n := by omega
      have HP := HV.out.ok k hlt
      have ST := Lib.hid (show bsd X Y x0 wd mid (k + 1) = bstp x0 wd mid (bsd X Y x0 wd mid k) (X k) (Y k) from rfl)
      have HZ := Lib.hid ((Gr.refl wr).alloc (.cells #[.int .i64 (X k), .int .i64 (Y k)] 56))
      clear hcc hk
      by_cases hx : X k = x0
      · have SU := Lib.hid (show bsd X Y x0 wd mid (k + 1) = bsd X Y x0 wd mid k by rw [ST.out]; exact if_pos hx)
        clear BB ST HP p0 p1 p2 p3
        rw [hx] at c0 HZ
        generalize bsd X Y x0 wd mid k = s at *
        generalize Y k = y at *
        go_wp2_with fail
        go_roundw
        case rel => exact ⟨k + 1, by omega, by go_num, Lib.hid (GG.out.trans HZ.out), by rw [SU.out]; exact Lib.hid (H9.out.gr HZ.out), Lib.hid (H4.out.gr HZ.out), Lib.hid (H6.out.gr HZ.out)⟩
        case measure => simp [intOf]; omega
      · have d1 : (X k == x0) = false := by simpa using hx
        have BN := bn_bd (wd := wd) (mid := mid) h0 HP hwd hmd
        have PB := bd_pos hx
        have CR := Lib.hid (fun w' => ratio_any (bn x0 wd mid (X k) (Y k)) (bd x0 (X k)) w' (by unfold Sz; omega) (by unfold Sz; omega) PB)
        have R1 := rN_abs (n := bn x0 wd mid (X k) (Y k)) PB
        have R2 := rD_pos (bn x0 wd mid (X k) (Y k)) PB
        have R3 := rD_le (bn x0 wd mid (X k) (Y k)) PB
        have SS := Lib.hid (show bstp x0 wd mid (bsd X Y x0 wd mid k) (X k) (Y k) = if (bsd X Y x0 wd mid k).D = 0 ∨ (bsd X Y x0 wd mid k).N * rD (bn x0 wd mid (X k) (Y k)) (bd x0 (X k)) < rN (bn x0 wd mid (X k) (Y k)) (bd x0 (X k)) * (bsd X Y x0 wd mid k).D then ⟨rN (bn x0 wd mid (X k) (Y k)) (bd x0 (X k)), rD (bn x0 wd mid (X k) (Y k)) (bd x0 (X k))⟩ else bsd X Y x0 wd mid k from if_neg hx)
        have EN := Lib.hid (show bn x0 wd mid (X k) (Y k) = if 2 * (X k - x0) < 0 then -(2 * Y k + wd - mid) else 2 * Y k - wd - mid from rfl)
        have ED := Lib.hid (show bd x0 (X k) = if 2 * (X k - x0) < 0 then -(2 * (X k - x0)) else 2 * (X k - x0) from rfl)
        obtain ⟨⟨hp1, hp2⟩, hp3, hp4⟩ := HP
        generalize bn x0 wd mid (X k) (Y k) = nn at *
        generalize bd x0 (X k) = dd at *
        have RB : (-6000 ≤ rN nn dd ∧ rN nn dd ≤ 6000) ∧ 0 < rD nn dd ∧ rD nn dd ≤ 400 := by omega
        have M1 := mul_bd (a := rN nn dd) (b := (bsd X Y x0 wd mid k).D) (A := 6000) (B := 400) (by omega) (by omega) (by omega) (by omega)
        have M2 := mul_bd (a := (bsd X Y x0 wd mid k).N) (b := rD nn dd) (A := 6000) (B := 400) (by omega) (by omega) (by omega) (by omega)
        have CC := Lib.hid (fun w' => compare_any (rN nn dd) (rD nn dd) (bsd X Y x0 wd mid k).N (bsd X Y x0 wd mid k).D w' (by unfold Sz; omega) (by unfold Sz; omega))
        clear hx R1 R2 R3 M1 M2
        have SF := Lib.hid (ST.out.trans SS.out)
        clear SS ST
        generalize hs1 : bsd X Y x0 wd mid (k + 1) = s1 at *
        generalize bsd X Y x0 wd mid k = s at *
        generalize hrn : rN nn dd = rn at *
        generalize hrd : rD nn dd = rd at *
        generalize X k = x at *
        generalize Y k = y at *
        have u1 : wrap64 (2 * y) = 2 * y := IntWalk.wrap64_in _ (by omega)
        have u2 : wrap64 (2 * y - wd) = 2 * y - wd := IntWalk.wrap64_in _ (by omega)
        have u3 : wrap64 (2 * y - wd - mid) = 2 * y - wd - mid := IntWalk.wrap64_in _ (by omega)
        have u4 : wrap64 (x - x0) = x - x0 := IntWalk.wrap64_in _ (by omega)
        have u5 : wrap64 (2 * (x - x0)) = 2 * (x - x0) := IntWalk.wrap64_in _ (by omega)
        have u6 : wrap64 (2 * y + wd) = 2 * y + wd := IntWalk.wrap64_in _ (by omega)
        have u7 : wrap64 (2 * y + wd - mid) = 2 * y + wd - mid := IntWalk.wrap64_in _ (by omega)
        have u8 : wrap64 (-(2 * y + wd - mid)) = -(2 * y + wd - mid) := IntWalk.wrap64_in _ (by omega)
        have u9 : wrap64 (-(2 * (x - x0))) = -(2 * (x - x0)) := IntWalk.wrap64_in _ (by omega)
        have v1 : IntKind.i64.wrap (2 * y) = 2 * y := IntWalk.i64_in _ (by omega)
        have v2 : IntKind.i64.wrap (2 * y - wd) = 2 * y - wd := IntWalk.i64_in _ (by omega)
        have v3 : IntKind.i64.wrap (2 * y - wd - mid) = 2 * y - wd - mid := IntWalk.i64_in _ (by omega)
        have v4 : IntKind.i64.wrap (x - x0) = x - x0 := IntWalk.i64_in _ (by omega)
        have v5 : IntKind.i64.wrap (2 * (x - x0)) = 2 * (x - x0) := IntWalk.i64_in _ (by omega)
        have TR : (s.D = 0 ∧ s1 = ⟨rn, rd⟩) ∨ (¬ s.D = 0 ∧ cmpI (rn * s.D) (s.N * rd) = 1 ∧ s1 = ⟨rn, rd⟩) ∨ (¬ s.D = 0 ∧ (cmpI (rn * s.D) (s.N * rd) = 0 ∨ cmpI (rn * s.D) (s.N * rd) = -1) ∧ s1 = s) := by
          rw [SF.out]
          unfold cmpI
          by_cases e0 : s.D = 0
          · exact .inl ⟨e0, if_pos (.inl e0)⟩
          · by_cases e1 : s.N * rd < rn * s.D
            · exact .inr (.inl ⟨e0, by rw [if_neg (by omega), if_pos e1], if_pos (.inr e1)⟩)
            · refine .inr (.inr ⟨e0, ?_, if_neg (fun h => h.elim e0 e1)⟩)
              by_cases e2 : rn * s.D < s.N * rd
              · exact .inr (if_pos e2)
              · exact .inl (by rw [if_neg e2, if_neg e1])
        have TR := Lib.hid TR
        clear SF BB BN PB RB
        by_cases hs : 2 * (x - x0) < 0
        · have EN' := EN.out
          have ED' := ED.out
          rw [if_pos hs] at EN' ED'
          rw [EN', ED'] at CR
          clear EN ED EN' ED'
          rcases TR.out with ⟨e0, SU⟩ | ⟨e0, CV, SU⟩ | ⟨e0, CV, SU⟩
          · have e1 : (s.D == 0) = true := by simpa using e0
            go_wp2_with fail
            go_quiet (fail)
            go_wp2_with (first | (go_at_call 66; refine (CR.out _).mono ?_; rintro e w3 ⟨rfl, g3⟩; have G3 := Lib.hid ((((HZ.out).drewN nq).trans g3).alloc (.cells #[.int .i64 rn, .int .i64 rd] 27)); have B14 := Lib.hid (show Box2 (w3.alloc (.cells #[.int .i64 rn, .int .i64 rd] 27)) w3.heap.size rn rd from Box2.new rfl); obtain ⟨t0, t1, t2, t3⟩ := H9.out.gr G3.out; clear g3))
            go_roundw
            case rel => exact ⟨k + 1, by omega, by go_num, Lib.hid (((GG.out.trans G3.out).setAt (by omega) _).setAt (by omega) _), Lib.hid (by rw [hs1, SU]; exact Box2.put (H9.out.gr G3.out)), Lib.hid ((H4.out.gr G3.out).far (by omega) _ _), Lib.hid (((H6.out.gr G3.out).far1 (by omega) _).far1 (by omega) _)⟩
            case measure => simp [intOf]; omega
          · have e1 : (s.D == 0) = false := by simpa using e0
            go_wp2_with fail
            go_quiet (fail)
            go_wp2_with (first | (go_at_call 66; refine (CR.out _).mono ?_; rintro e w3 ⟨rfl, g3⟩; have G3 := Lib.hid ((((HZ.out).drewN nq).trans g3).alloc (.cells #[.int .i64 rn, .int .i64 rd] 27)); have B14 := Lib.hid (show Box2 (w3.alloc (.cells #[.int .i64 rn, .int .i64 rd] 27)) w3.heap.size rn rd from Box2.new rfl); obtain ⟨t0, t1, t2, t3⟩ := H9.out.gr G3.out; clear g3) | (go_at_call 85; refine (CC.out _).mono ?_; rintro e w4 ⟨rfl, g4⟩; rw [CV]; have G4 := Lib.hid (G3.out.trans g4); obtain ⟨r0, r1, _, _⟩ := B14.out.gr g4; obtain ⟨s0, s1', s2, s3⟩ := H9.out.gr G4.out; clear g4))
            go_roundw
            case rel => exact ⟨k + 1, by omega, by go_num, Lib.hid (((GG.out.trans G4.out).setAt (by omega) _).setAt (by omega) _), Lib.hid (by rw [hs1, SU]; exact Box2.put (H9.out.gr G4.out)), Lib.hid ((H4.out.gr G4.out).far (by omega) _ _), Lib.hid (((H6.out.gr G4.out).far1 (by omega) _).far1 (by omega) _)⟩
            case measure => simp [intOf]; omega
          · have e1 : (s.D == 0) = false := by simpa using e0
            rcases CV with CV | CV
            · skip
              go_wp2_with fail
              go_quiet (fail)
              go_wp2_with (first | (go_at_call 66; refine (CR.out _).mono ?_; rintro e w3 ⟨rfl, g3⟩; have G3 := Lib.hid ((((HZ.out).drewN nq).trans g3).alloc (.cells #[.int .i64 rn, .int .i64 rd] 27)); have B14 := Lib.hid (show Box2 (w3.alloc (.cells #[.int .i64 rn, .int .i64 rd] 27)) w3.heap.size rn rd from Box2.new rfl); obtain ⟨t0, t1, t2, t3⟩ := H9.out.gr G3.out; clear g3) | (go_at_call 85; refine (CC.out _).mono ?_; rintro e w4 ⟨rfl, g4⟩; rw [CV]; have G4 := Lib.hid (G3.out.trans g4); obtain ⟨r0, r1, _, _⟩ := B14.out.gr g4; obtain ⟨s0, s1', s2, s3⟩ := H9.out.gr G4.out; clear g4))
              go_roundw
              case rel => exact ⟨k + 1, by omega, by go_num, Lib.hid (GG.out.trans G4.out), Lib.hid (by rw [hs1, SU]; exact H9.out.gr G4.out), Lib.hid (H4.out.gr G4.out), Lib.hid (H6.out.gr G4.out)⟩
              case measure => simp [intOf]; omega
            · skip
              go_wp2_with fail
              go_quiet (fail)
              go_wp2_with (first | (go_at_call 66; refine (CR.out _).mono ?_; rintro e w3 ⟨rfl, g3⟩; have G3 := Lib.hid ((((HZ.out).drewN nq).trans g3).alloc (.cells #[.int .i64 rn, .int .i64 rd] 27)); have B14 := Lib.hid (show Box2 (w3.alloc (.cells #[.int .i64 rn, .int .i64 rd] 27)) w3.heap.size rn rd from Box2.new rfl); obtain ⟨t0, t1, t2, t3⟩ := H9.out.gr G3.out; clear g3) | (go_at_call 85; refine (CC.out _).mono ?_; rintro e w4 ⟨rfl, g4⟩; rw [CV]; have G4 := Lib.hid (G3.out.trans g4); obtain ⟨r0, r1, _, _⟩ := B14.out.gr g4; obtain ⟨s0, s1', s2, s3⟩ := H9.out.gr G4.out; clear g4))
              go_roundw
              case rel => exact ⟨k + 1, by omega, by go_num, Lib.hid (GG.out.trans G4.out), Lib.hid (by rw [hs1, SU]; exact H9.out.gr G4.out), Lib.hid (H4.out.gr G4.out), Lib.hid (H6.out.gr G4.out)⟩
              case measure => simp [intOf]; omega
        · have EN' := EN.out
          have ED' := ED.out
          rw [if_neg hs] at EN' ED'
          rw [EN', ED'] at CR
          clear EN ED EN' ED'
          rcases TR.out with ⟨e0, SU⟩ | ⟨e0, CV, SU⟩ | ⟨e0, CV, SU⟩
          · have e1 : (s.D == 0) = true := by simpa using e0
            go_wp2_with fail
            go_quiet (fail)
            go_wp2_with (first | (go_at_call 66; refine (CR.out _).mono ?_; rintro e w3 ⟨rfl, g3⟩; have G3 := Lib.hid ((((HZ.out).drewN nq).trans g3).alloc (.cells #[.int .i64 rn, .int .i64 rd] 27)); have B14 := Lib.hid (show Box2 (w3.alloc (.cells #[.int .i64 rn, .int .i64 rd] 27)) w3.heap.size rn rd from Box2.new rfl); obtain ⟨t0, t1, t2, t3⟩ := H9.out.gr G3.out; clear g3))
            go_roundw
            case rel => exact ⟨k + 1, by omega, by go_num, Lib.hid (((GG.out.trans G3.out).setAt (by omega) _).setAt (by omega) _), Lib.hid (by rw [hs1, SU]; exact Box2.put (H9.out.gr G3.out)), Lib.hid ((H4.out.gr G3.out).far (by omega) _ _), Lib.hid (((H6.out.gr G3.out).far1 (by omega) _).far1 (by omega) _)⟩
            case measure => simp [intOf]; omega
          · have e1 : (s.D == 0) = false := by simpa using e0
            go_wp2_with fail
            go_quiet (fail)
            go_wp2_with (first | (go_at_call 66; refine (CR.out _).mono ?_; rintro e w3 ⟨rfl, g3⟩; have G3 := Lib.hid ((((HZ.out).drewN nq).trans g3).alloc (.cells #[.int .i64 rn, .int .i64 rd] 27)); have B14 := Lib.hid (show Box2 (w3.alloc (.cells #[.int .i64 rn, .int .i64 rd] 27)) w3.heap.size rn rd from Box2.new rfl); obtain ⟨t0, t1, t2, t3⟩ := H9.out.gr G3.out; clear g3) | (go_at_call 85; refine (CC.out _).mono ?_; rintro e w4 ⟨rfl, g4⟩; rw [CV]; have G4 := Lib.hid (G3.out.trans g4); obtain ⟨r0, r1, _, _⟩ := B14.out.gr g4; obtain ⟨s0, s1', s2, s3⟩ := H9.out.gr G4.out; clear g4))
            go_roundw
            case rel => exact ⟨k + 1, by omega, by go_num, Lib.hid (((GG.out.trans G4.out).setAt (by omega) _).setAt (by omega) _), Lib.hid (by rw [hs1, SU]; exact Box2.put (H9.out.gr G4.out)), Lib.hid ((H4.out.gr G4.out).far (by omega) _ _), Lib.hid (((H6.out.gr G4.out).far1 (by omega) _).far1 (by omega) _)⟩
            case measure => simp [intOf]; omega
          · have e1 : (s.D == 0) = false := by simpa using e0
            rcases CV with CV | CV
            · skip
              go_wp2_with fail
              go_quiet (fail)
              go_wp2_with (first | (go_at_call 66; refine (CR.out _).mono ?_; rintro e w3 ⟨rfl, g3⟩; have G3 := Lib.hid ((((HZ.out).drewN nq).trans g3).alloc (.cells #[.int .i64 rn, .int .i64 rd] 27)); have B14 := Lib.hid (show Box2 (w3.alloc (.cells #[.int .i64 rn, .int .i64 rd] 27)) w3.heap.size rn rd from Box2.new rfl); obtain ⟨t0, t1, t2, t3⟩ := H9.out.gr G3.out; clear g3) | (go_at_call 85; refine (CC.out _).mono ?_; rintro e w4 ⟨rfl, g4⟩; rw [CV]; have G4 := Lib.hid (G3.out.trans g4); obtain ⟨r0, r1, _, _⟩ := B14.out.gr g4; obtain ⟨s0, s1', s2, s3⟩ := H9.out.gr G4.out; clear g4))
              go_roundw
              case rel => exact ⟨k + 1, by omega, by go_num, Lib.hid (GG.out.trans G4.out), Lib.hid (by rw [hs1, SU]; exact H9.out.gr G4.out), Lib.hid (H4.out.gr G4.out), Lib.hid (H6.out.gr G4.out)⟩
              case measure => simp [intOf]; omega
            · skip
              go_wp2_with fail
              go_quiet (fail)
              go_wp2_with (first | (go_at_call 66; refine (CR.out _).mono ?_; rintro e w3 ⟨rfl, g3⟩; have G3 := Lib.hid ((((HZ.out).drewN nq).trans g3).alloc (.cells #[.int .i64 rn, .int .i64 rd] 27)); have B14 := Lib.hid (show Box2 (w3.alloc (.cells #[.int .i64 rn, .int .i64 rd] 27)) w3.heap.size rn rd from Box2.new rfl); obtain ⟨t0, t1, t2, t3⟩ := H9.out.gr G3.out; clear g3) | (go_at_call 85; refine (CC.out _).mono ?_; rintro e w4 ⟨rfl, g4⟩; rw [CV]; have G4 := Lib.hid (G3.out.trans g4); obtain ⟨r0, r1, _, _⟩ := B14.out.gr g4; obtain ⟨s0, s1', s2, s3⟩ := H9.out.gr G4.out; clear g4))
              go_roundw
              case rel => exact ⟨k + 1, by omega, by go_num, Lib.hid (GG.out.trans G4.out), Lib.hid (by rw [hs1, SU]; exact H9.out.gr G4.out), Lib.hid (H4.out.gr G4.out), Lib.hid (H6.out.gr G4.out)⟩
              case measure => simp [intOf]; omega
    · have eA : n = k := by omega
      subst eA
      have n1 : ¬ (n : Int) < (n : Int) := by omega
      obtain ⟨_, _, _, _, hE, hN, _⟩ := bsd_at HV.out h0 hwd hmd
      obtain ⟨l0, l1, _, _⟩ := H4.out
      obtain ⟨p0, p1, p2, p3⟩ := H9.out
      clear hlt BB hk
      generalize (bsd X Y x0 wd mid n).N = N at *
      generalize (bsd X Y x0 wd mid n).D = D at *
      have m1 := mul_bd (a := mid) (b := D) (A := 2000) (B := 400) (by omega) (by omega) (by omega) (by omega)
      have m2 := mul_bd (a := 2 * N) (b := x0) (A := 12000) (B := 100) (by omega) (by omega) (by omega) (by omega)
      have CM := Lib.hid (fun w' => made_any (2 * N) (mid * D - 2 * N * x0) (2 * D) w' (by unfold Sz; omega) (by unfold Sz; omega) (by unfold Sz; omega) (by omega))
      have v1 : IntKind.i64.wrap (2 * N) = 2 * N := IntWalk.i64_in _ (by omega)
      have v2 : IntKind.i64.wrap (mid * D) = mid * D := IntWalk.i64_in _ (by omega)
      have v3 : IntKind.i64.wrap (2 * N * x0) = 2 * N * x0 := IntWalk.i64_in _ (by omega)
      have v4 : IntKind.i64.wrap (mid * D - 2 * N * x0) = mid * D - 2 * N * x0 := IntWalk.i64_in _ (by omega)
      have v5 : IntKind.i64.wrap (2 * D) = 2 * D := IntWalk.i64_in _ (by omega)
      clear m1 m2 hE hN
      generalize hrA : mkA (2 * N) (mid * D - 2 * N * x0) (2 * D) = rA at *
      generalize hrB : mkB (2 * N) (mid * D - 2 * N * x0) (2 * D) = rB at *
      generalize hrE : mkD (2 * N) (mid * D - 2 * N * x0) (2 * D) = rE at *
      go_wp2_with (go_at_call 94; (with_reducible refine (CM.out _).mono ?_); rintro e w3 ⟨rfl, g3⟩; obtain ⟨k0, k1, k2, k3, k4, k5⟩ := H6.out.gr g3)
      obtain ⟨z0, z1, z2, _⟩ := Box3.put (show Box3 w3 (w.heap.size + 1 + 1) 0 0 0 from ⟨k0, k1, k2, k3, k4, k5⟩) rA rB rE
      exact bodyPost_ret (v := .agg #[.int .i64 rA, .int .i64 rB, .int .i64 rE]) (by simp [results, Try.results93, go_sem, z0, z1, z2]) rfl ⟨by rw [← hrA, ← hrB, ← hrE]; rfl, (((GG.out.trans g3).setAt (by omega) _).setAt (by omega) _).setAt (by omega) _⟩
end Go.Proofs.Ytbhndfnfohoidaa
