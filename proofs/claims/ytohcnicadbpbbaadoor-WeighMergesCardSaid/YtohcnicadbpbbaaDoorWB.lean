/- Contracts of chapter 7: a row of outcomes is put in order (insertion sort). -/
import Derived.Test.YtohcnicadbpbbaaDoorWA
import Derived.Test.YtohcnicadbpbbaaDoorP3
namespace Go.Firn
open Go.RowKit
theorem Wr.of_gr {bb : Nat} {a b : World} (h : Gr a b) : Wr bb a b := ⟨h.os, h.tape, h.output, Gr.size h, fun k hk _ => Below.block h k hk⟩
end Go.Firn
namespace Go.Proofs.YtohcnicadbpbbaaDoor
open Go.RowKit Go.Firn

/-- The row in block b holds R 0, R 1, .. and may be written. -/
def RowN (w : World) (b m : Nat) (R : Nat → Nat) : Prop := ∀ p, p < m → w.cell? ⟨b, p, none⟩ = some (.int .i64 (R p)) ∧ w.frozen? ⟨b, p, none⟩ = false
theorem RowN.gr {w w' : World} {b m : Nat} {R : Nat → Nat} (h : RowN w b m R) (g : Gr w w') : RowN w' b m R :=
  fun p hp => ⟨g.cell (h p hp).1, (Below.frozen g (World.block_lt_of_cell? w _ (h p hp).1)).trans (h p hp).2⟩
theorem RowN.swap {w : World} {b m : Nat} {R : Nat → Nat} (h : RowN w b m R) {J j : Nat} (hJ : J = j + 1) (hj : J < m) :
    RowN ((w.setCell ⟨b, J, none⟩ (.int .i64 (R j))).setCell ⟨b, j, none⟩ (.int .i64 (R J))) b m (swp R J) := by
  subst hJ
  intro p hp
  refine ⟨?_, by simpa using (h p hp).2⟩
  by_cases h1 : p = j + 1
  · subst h1
    rw [swp_hi]
    exact cell_by (cell_near (h _ hp).1 _) (by omega) _
  · by_cases h2 : p = j
    · subst h2
      rw [swp_lo]
      exact cell_near (cell_by (h _ hp).1 (by omega) _) _
    · rw [swp_far R h1 h2]
      exact cell_by (cell_by (h _ hp).1 (by omega) _) (by omega) _

theorem cf52 (args : Array Value) (wz : World) : (callFunc 82 args).run Tryd.prog wz = .ok (.enter 82 args) wz := by kernel_rfl

theorem swp_bd {R : Nat → Nat} {m n J : Nat} (h : ∀ p, p < m → R p < n) (hJ : J < m) : ∀ p, p < m → swp R J p < n := fun p hp => by
  unfold swp
  repeat' split
  · exact h _ (by omega)
  · exact h _ hJ
  · exact h _ hp

set_option maxRecDepth 100000 in
set_option maxHeartbeats 8000000 in
theorem ins_any (a a2 : Option Addr) (n c d : Nat) (f g : Nat → Int) (u v : Value) (b cap m : Nat) (R : Nat → Nat) (w0 w : World) (hm : m ≤ 1000) (g0 : Gr w0 w) (hb : w0.heap.size ≤ b)
    (hr : RdI w0 a n f) (hs : RdI w0 a2 n g) (hf : ∀ k, k < n → 0 ≤ f k ∧ f k ≤ 1000) (hg : ∀ k, k < n → 0 ≤ g k ∧ g k ≤ 1000) (hR : ∀ p, p < m → R p < n) (hw : RowN w b m R) :
    Calls Tryd.prog 104 #[.slice (some ⟨b, 0, none⟩) m cap, .int .i64 0, .int .i64 m, .func (.func 82) #[.agg #[.slice a n c, .slice a2 n d, u, v]] #[]] w fun e w' =>
      e = .returned (.tuple #[]) ∧ Wr b w w' ∧ RowN w' b m (insO (fun i j => decide (cmpO f g i j < 0)) (m - 1) 1 R) := by
  have CC := Lib.hid (fun (w' : World) (k : Gr w0 w') (i j : Nat) (hi : i < n) (hj : j < n) => compare_any a a2 n c d f g i j u v w' hi hj (hr.gr k) (hs.gr k) hf hg)
  obtain ⟨lt, hlt⟩ : ∃ lt : Nat → Nat → Bool, lt = fun i j => decide (cmpO f g i j < 0) := ⟨_, rfl⟩
  have HL := Lib.hid (show ∀ i j, lt i j = decide (cmpO f g i j < 0) by intro i j; rw [hlt])
  rw [← hlt]
  have HW := Lib.hid hw
  have HRn := Lib.hid hR
  have H0 := Lib.hid (show ∀ w', Wr b w w' → Gr w0 w' from fun w' k => k.gr g0 hb)
  clear hlt hr hs hf hg hw hR g0 hb
  go_enter Tryd.func104, Tryd.ntmps104
  go_wp2_with fail
  go_loopw [8] (fun i wr => ∃ (k : Nat) (R1 : Nat → Nat), i = .int .i64 k ∧ Hid (1 ≤ k ∧ (k ≤ m ∨ k = 1)) ∧ Hid (Wr b w wr) ∧ Hid (RowN wr b m R1) ∧ Hid (∀ p, p < m → R1 p < n) ∧ Hid (insO lt (m - k) k R1 = insO lt (m - 1) 1 R)) (fun i _ => m - (intOf i).toNat)
  case atStart => exact ⟨1, R, rfl, Lib.hid ⟨by omega, .inr rfl⟩, Lib.hid (Wr.refl _ _), HW, HRn, Lib.hid rfl⟩
  case round =>
    obtain ⟨k, R1, rfl, hk, HW1, HR1, HB1, HE1⟩ := hrel
    by_cases hlk : k < m
    · have hlki : (k : Int) < (m : Int) := by omega
      go_wp2_with fail
      go_loopw [9] (fun j wr' => ∃ (J : Nat) (R2 : Nat → Nat), j = .int .i64 J ∧ Hid (J ≤ k) ∧ Hid (Wr b w wr') ∧ Hid (RowN wr' b m R2) ∧ Hid (∀ p, p < m → R2 p < n) ∧ Hid (insI lt J R2 = insI lt k R1)) (fun j _ => (intOf j).toNat)
      case atStart => exact ⟨k, R1, rfl, Lib.hid (Nat.le_refl _), HW1, HR1, HB1, Lib.hid rfl⟩
      case round =>
        clear HW1 HR1 HB1
        obtain ⟨J, R2, rfl, hJ, HW2, HR2, HB2, HE2⟩ := hrel
        by_cases hJ0 : J = 0
        · subst hJ0
          go_wp2_with fail
          go_quiet (fail)
          go_wp2_with fail
          go_roundw
          case rel => exact ⟨k + 1, R2, by go_num, Lib.hid ⟨by omega, .inl (by omega)⟩, Lib.hid (HW2.out.drewN _), HR2, HB2, Lib.hid (by rw [← HE1.out, show m - k = (m - (k + 1)) + 1 by omega]; show _ = insO lt (m - (k + 1)) (k + 1) (insI lt k R1); rw [← HE2.out]; rfl)⟩
          case measure => simp [intOf]; omega
        · obtain ⟨jp, hjp⟩ : ∃ jp, J = jp + 1 := ⟨J - 1, by omega⟩
          have HJ := Lib.hid hjp
          have hJ1 := hJ.out
          have q1 : (0 : Int) < (J : Int) := by omega
          have q5 : 0 < J := by omega
          have q2 : IntKind.i64.wrap ((J : Int) - 1) = (jp : Int) := by rw [show (J : Int) - 1 = jp by omega]; exact IntWalk.i64_in _ (by omega)
          have q3 : (J : Int) < (m : Int) := by omega
          have q4 : (jp : Int) < (m : Int) := by omega
          obtain ⟨cj, fj⟩ := HR2.out J (by omega)
          obtain ⟨cp, fp⟩ := HR2.out jp (by omega)
          have HC := Lib.hid (fun w' (k : Gr wr w') => CC.out w' (H0.out w' (HW2.out.trans (Wr.of_gr k))) (R2 J) (R2 jp) (HB2.out _ (by omega)) (HB2.out _ (by omega)))
          have HE3 := Lib.hid (show insI lt J R2 = if lt (R2 J) (R2 jp) then insI lt jp (swp R2 J) else R2 by rw [hjp]; exact insI_succ lt jp R2)
          clear hjp hJ0 hJ1
          go_wp2_with fail
          refine (wpIn_wide (n := 3)).1 ?_
          refine wpIn_region_held (fun w' => Gr wr w') 17 (by kernel_rfl) rfl rfl ?_
          have hS : Gr wr wr.drew := (Gr.refl wr).drew
          iterate 14 (first
            | (refine wpAnyHIn_take 0 (v := ?_) rfl (by kernel_rfl) (by kernel_rfl) (by kernel_rfl) (by decide +kernel) (fun _ _ _ h => h) (fun _ _ _ => trivial) (by rfl) (fun w' hSw => ?_) hS ?_; rotate_left 1; (focus (have z0 := hSw.cell cj; have z1 := hSw.cell cp; go_simp; try with_reducible rfl)); simp only [Act.put, List.setIfInBounds_toArray, List.set_cons_zero, List.set_cons_succ])
            | (refine wpAnyHIn_take 1 (v := ?_) rfl (by kernel_rfl) (by kernel_rfl) (by kernel_rfl) (by decide +kernel) (fun _ _ _ h => h) (fun _ _ _ => trivial) (by rfl) (fun w' hSw => ?_) hS ?_; rotate_left 1; (focus (have z0 := hSw.cell cj; have z1 := hSw.cell cp; go_simp; try with_reducible rfl)); simp only [Act.put, List.setIfInBounds_toArray, List.set_cons_zero, List.set_cons_succ])
            | (refine wpAnyHIn_take 2 (v := ?_) rfl (by kernel_rfl) (by kernel_rfl) (by kernel_rfl) (by decide +kernel) (fun _ _ _ h => h) (fun _ _ _ => trivial) (by rfl) (fun w' hSw => ?_) hS ?_; rotate_left 1; (focus (have z0 := hSw.cell cj; have z1 := hSw.cell cp; go_simp; try with_reducible rfl)); simp only [Act.put, List.setIfInBounds_toArray, List.set_cons_zero, List.set_cons_succ])
            | (refine wpAnyHIn_take 3 (v := ?_) rfl (by kernel_rfl) (by kernel_rfl) (by kernel_rfl) (by decide +kernel) (fun _ _ _ h => h) (fun _ _ _ => trivial) (by rfl) (fun w' hSw => ?_) hS ?_; rotate_left 1; (focus (have z0 := hSw.cell cj; have z1 := hSw.cell cp; go_simp; try with_reducible rfl)); simp only [Act.put, List.setIfInBounds_toArray, List.set_cons_zero, List.set_cons_succ])
            | (refine wpAnyHIn_take 4 (v := ?_) rfl (by kernel_rfl) (by kernel_rfl) (by kernel_rfl) (by decide +kernel) (fun _ _ _ h => h) (fun _ _ _ => trivial) (by rfl) (fun w' hSw => ?_) hS ?_; rotate_left 1; (focus (have z0 := hSw.cell cj; have z1 := hSw.cell cp; go_simp; try with_reducible rfl)); simp only [Act.put, List.setIfInBounds_toArray, List.set_cons_zero, List.set_cons_succ])
            | (refine wpAnyHIn_take 5 (v := ?_) rfl (by kernel_rfl) (by kernel_rfl) (by kernel_rfl) (by decide +kernel) (fun _ _ _ h => h) (fun _ _ _ => trivial) (by rfl) (fun w' hSw => ?_) hS ?_; rotate_left 1; (focus (have z0 := hSw.cell cj; have z1 := hSw.cell cp; go_simp; try with_reducible rfl)); simp only [Act.put, List.setIfInBounds_toArray, List.set_cons_zero, List.set_cons_succ])
            | (refine wpAnyHIn_take 6 (v := ?_) rfl (by kernel_rfl) (by kernel_rfl) (by kernel_rfl) (by decide +kernel) (fun _ _ _ h => h) (fun _ _ _ => trivial) (by rfl) (fun w' hSw => ?_) hS ?_; rotate_left 1; (focus (have z0 := hSw.cell cj; have z1 := hSw.cell cp; go_simp; try with_reducible rfl)); simp only [Act.put, List.setIfInBounds_toArray, List.set_cons_zero, List.set_cons_succ])
            | (refine wpAnyHIn_take 7 (v := ?_) rfl (by kernel_rfl) (by kernel_rfl) (by kernel_rfl) (by decide +kernel) (fun _ _ _ h => h) (fun _ _ _ => trivial) (by rfl) (fun w' hSw => ?_) hS ?_; rotate_left 1; (focus (have z0 := hSw.cell cj; have z1 := hSw.cell cp; go_simp; try with_reducible rfl)); simp only [Act.put, List.setIfInBounds_toArray, List.set_cons_zero, List.set_cons_succ])
            | (refine wpAnyHIn_take 8 (v := ?_) rfl (by kernel_rfl) (by kernel_rfl) (by kernel_rfl) (by decide +kernel) (fun _ _ _ h => h) (fun _ _ _ => trivial) (by rfl) (fun w' hSw => ?_) hS ?_; rotate_left 1; (focus (have z0 := hSw.cell cj; have z1 := hSw.cell cp; go_simp; try with_reducible rfl)); simp only [Act.put, List.setIfInBounds_toArray, List.set_cons_zero, List.set_cons_succ])
            | (refine wpAnyHIn_take 9 (v := ?_) rfl (by kernel_rfl) (by kernel_rfl) (by kernel_rfl) (by decide +kernel) (fun _ _ _ h => h) (fun _ _ _ => trivial) (by rfl) (fun w' hSw => ?_) hS ?_; rotate_left 1; (focus (have z0 := hSw.cell cj; have z1 := hSw.cell cp; go_simp; try with_reducible rfl)); simp only [Act.put, List.setIfInBounds_toArray, List.set_cons_zero, List.set_cons_succ])
            | (refine wpAnyHIn_take 10 (v := ?_) rfl (by kernel_rfl) (by kernel_rfl) (by kernel_rfl) (by decide +kernel) (fun _ _ _ h => h) (fun _ _ _ => trivial) (by rfl) (fun w' hSw => ?_) hS ?_; rotate_left 1; (focus (have z0 := hSw.cell cj; have z1 := hSw.cell cp; go_simp; try with_reducible rfl)); simp only [Act.put, List.setIfInBounds_toArray, List.set_cons_zero, List.set_cons_succ])
            | (refine wpAnyHIn_take 11 (v := ?_) rfl (by kernel_rfl) (by kernel_rfl) (by kernel_rfl) (by decide +kernel) (fun _ _ _ h => h) (fun _ _ _ => trivial) (by rfl) (fun w' hSw => ?_) hS ?_; rotate_left 1; (focus (have z0 := hSw.cell cj; have z1 := hSw.cell cp; go_simp; try with_reducible rfl)); simp only [Act.put, List.setIfInBounds_toArray, List.set_cons_zero, List.set_cons_succ])
            | (refine wpAnyHIn_take 12 (v := ?_) rfl (by kernel_rfl) (by kernel_rfl) (by kernel_rfl) (by decide +kernel) (fun _ _ _ h => h) (fun _ _ _ => trivial) (by rfl) (fun w' hSw => ?_) hS ?_; rotate_left 1; (focus (have z0 := hSw.cell cj; have z1 := hSw.cell cp; go_simp; try with_reducible rfl)); simp only [Act.put, List.setIfInBounds_toArray, List.set_cons_zero, List.set_cons_succ])
            | (refine wpAnyHIn_take 13 (v := ?_) rfl (by kernel_rfl) (by kernel_rfl) (by kernel_rfl) (by decide +kernel) (fun _ _ _ h => h) (fun _ _ _ => trivial) (by rfl) (fun w' hSw => ?_) hS ?_; rotate_left 1; (focus (have z0 := hSw.cell cj; have z1 := hSw.cell cp; go_simp; try with_reducible rfl)); simp only [Act.put, List.setIfInBounds_toArray, List.set_cons_zero, List.set_cons_succ]))
          refine wpAnyHIn_ready [14] (by kernel_rfl) (by simp) ?_
          refine AllHIn.cons rfl (by rfl) (fun K hK => ?_) AllHIn.nil
          go_simp
          refine ⟨trivial, ?_⟩
          refine (callsIn_wide.2 (HC.out _ hS)).mono ?_
          rintro e wX ⟨rfl, gX⟩
          have hS : Gr wr wX := hS.trans gX
          refine hK.out _ _ hS ?_
          clear hK K gX
          iterate 2 (first
            | (refine wpAnyHIn_take 15 (v := ?_) rfl (by kernel_rfl) (by kernel_rfl) (by kernel_rfl) (by decide +kernel) (fun _ _ _ h => h) (fun _ _ _ => trivial) (by rfl) (fun w' hSw => ?_) hS ?_; rotate_left 1; (focus (skip; go_simp; try with_reducible rfl)); simp only [Act.put, List.setIfInBounds_toArray, List.set_cons_zero, List.set_cons_succ])
            | (refine wpAnyHIn_take 16 (v := ?_) rfl (by kernel_rfl) (by kernel_rfl) (by kernel_rfl) (by decide +kernel) (fun _ _ _ h => h) (fun _ _ _ => trivial) (by rfl) (fun w' hSw => ?_) hS ?_; rotate_left 1; (focus (skip; go_simp; try with_reducible rfl)); simp only [Act.put, List.setIfInBounds_toArray, List.set_cons_zero, List.set_cons_succ]))
          refine wpAnyHIn_done (by kernel_rfl) ?_ _
          clear HC
          have HW3 := Lib.hid (HW2.out.trans (Wr.of_gr hS))
          have HR3 := Lib.hid (HR2.out.gr hS)
          clear hS cj cp HW2 HR2
          by_cases hl : cmpO f g (R2 J) (R2 jp) < 0
          · obtain ⟨cj, fj⟩ := HR3.out J (by have := hJ.out; omega)
            obtain ⟨cp, fp⟩ := HR3.out jp (by have := HJ.out; have := hJ.out; omega)
            have HE4 := Lib.hid (show insI lt jp (swp R2 J) = insI lt k R1 by rw [← HE2.out, HE3.out, HL.out, decide_eq_true hl]; rfl)
            have cp2 := cell_by (k := J) cp (by have := HJ.out; omega) (.int .i64 (R2 jp))
            have cj2 := cell_by (k := jp) cj (by have := HJ.out; omega) (.int .i64 (R2 J))
            clear HE2 HE3
            go_wp2_with fail
            go_region
            all_goals go_wp2
            go_roundw
            case rel => exact ⟨jp, swp R2 J, by go_num, Lib.hid (by have := HJ.out; have := hJ.out; omega), Lib.hid ((HW3.out.set J _).set jp _).drew, Lib.hid (HR3.out.swap HJ.out (by have := hJ.out; omega)), Lib.hid (swp_bd HB2.out (by have := hJ.out; omega)), HE4⟩
            case measure => have := HJ.out; simp [intOf]; omega
          · have HE4 := Lib.hid (show R2 = insI lt k R1 by rw [← HE2.out, HE3.out, HL.out, decide_eq_false hl]; rfl)
            clear HE2 HE3
            go_wp2_with fail
            go_roundw
            case rel => exact ⟨k + 1, R2, by go_num, Lib.hid ⟨by omega, .inl (by omega)⟩, HW3, HR3, HB2, Lib.hid (by rw [← HE1.out, show m - k = (m - (k + 1)) + 1 by omega]; show _ = insO lt (m - (k + 1)) (k + 1) (insI lt k R1); rw [← HE4.out])⟩
            case measure => simp [intOf]; omega
    · have hlki : ¬ (k : Int) < (m : Int) := by omega
      go_wp2_with fail
      go_end0
      refine ⟨rfl, HW1.out, ?_⟩
      rw [← HE1.out, show m - k = 0 by have := hk.out; omega]
      exact HR1.out

end Go.Proofs.YtohcnicadbpbbaaDoor
