/- Contracts of chapter 7: the weights behind a merge. -/
import Derived.Test.YtohcnicadbpbbaaWL
namespace Go.Proofs.Ytohcnicadbpbbaa
open Go.RowKit Go.Firn

/-- The weights behind a merge of i and j. -/
def mgF (f : Nat → Int) (i j p : Nat) : Int := (if p < j then f p else f (p + 1)) + (if p = i then f j else 0)

set_option maxHeartbeats 2000000 in
set_option maxRecDepth 100000 in
theorem merged_any (a : Option Addr) (n c : Nat) (f : Nat → Int) (i j : Nat) (w : World) (hn : n ≤ 1000) (hij : i < j) (hj : j < n) (hr : RdI w a n f) (hf : ∀ k, k < n → 0 ≤ f k ∧ f k ≤ 1000000) :
    Calls Try.prog 55 #[.slice a n c, .int .i64 i, .int .i64 j] w (RetI1 (n - 1) (mgF f i j) w) := by
  have CC := Lib.hid (fun w' (k : Gr w w') => Clone_any a n c f w' ⟨by omega, hn⟩ (hr.gr k))
  have CD := Lib.hid (fun (b c' : Nat) (w' : World) (h1 : n ≤ c' ∧ c' ≤ maxLen) (h2 : RowI w' b n f) => by
    have := Delete_any b n c' j f w' hj hn h1 h2
    rwa [show ((j + 1 : Nat) : Int) = (j : Int) + 1 by omega] at this)
  have HR := Lib.hid hr
  have fi := hf i (by omega)
  have fj := hf j hj
  have i1 : (i : Int) < ((n - 1 : Nat) : Int) := by omega
  have i2 : (j : Int) < (n : Int) := by omega
  clear hr hf
  go_enter Try.func55, Try.ntmps55
  go_wp2_with fail
  refine (CC.out _ (Gr.refl w)).mono ?_
  rintro e w1 ⟨b, c1, rfl, l1, l2, r1, g1, f1⟩
  have G1 := Lib.hid g1
  have R1 := Lib.hid r1
  clear g1 r1
  go_wp2_with fail
  refine (CD.out _ _ _ ⟨l1, l2⟩ R1.out).mono ?_
  rintro e w2 ⟨rfl, g2, r2⟩
  have G2 := Lib.hid (g2.gr G1.out f1)
  obtain ⟨b3, o3, e3, h3⟩ := (HR.out.gr G2.out).at hj
  have c3 := h3 j hj
  obtain ⟨c4, f4⟩ := r2 i (by omega)
  simp only [if_pos hij] at c4
  have R2 := Lib.hid r2
  subst e3
  have q1 : IntKind.i64.wrap (f i + f j) = f i + f j := IntWalk.i64_in _ (by omega)
  clear h3 g2 r2 CC CD
  go_wp2_with fail
  generalize hfi : f i = x at *
  generalize hfj : f j = y at *
  have HX := Lib.hid hfi
  have HY := Lib.hid hfj
  clear hfi hfj
  go_region
  all_goals go_wp2
  go_ret
  refine ⟨_, _, rfl, by omega, l2, ((R2.out.set i (x + y)).rd).congr (fun p hp => ?_), (G2.out.setAt f1 _).drew⟩
  unfold mgF
  by_cases h : p = i
  · subst h; rw [if_pos rfl, if_pos hij, if_pos rfl, HX.out, HY.out]
  · rw [if_neg h, if_neg h, Int.add_zero]

set_option maxHeartbeats 2000000 in
set_option maxRecDepth 100000 in
theorem refmerged_any (a : Option Addr) (n c : Nat) (f : Nat → Int) (i j : Nat) (w : World) (hn : n ≤ 1000) (hij : i < j) (hj : j < n) (hr : RdI w a n f) (hf : ∀ k, k < n → 0 ≤ f k ∧ f k ≤ 1000000) :
    Calls Try.prog 56 #[.slice a n c, .int .i64 i, .int .i64 j] w (RetI1 (n - 1) (mgF f i j) w) := by
  have HR := Lib.hid hr
  have HF := Lib.hid hf
  obtain ⟨F, hF⟩ : ∃ F, mgF f i j = F := ⟨_, rfl⟩
  have EF := Lib.hid (show ∀ p, F p = (if p < j then f p else f (p + 1)) + (if p = i then f j else 0) by intro p; rw [← hF]; rfl)
  rw [hF]
  clear hr hf hF
  go_enter Try.func56, Try.ntmps56
  go_wp2_with fail
  go_loopw [7, 8, 9, 12] (fun v _ _ s wr => ∃ k : Nat, k ≤ n ∧ s = .int .i64 k ∧ OwnI w 3 wr v (if k ≤ j then k else k - 1) F) (fun _ _ _ s _ => n - (intOf s).toNat)
  case atStart => exact ⟨0, by omega, rfl, by rw [if_pos (by omega)]; exact OwnI.nil' (by first | exact Gr.refl _ | exact (Gr.refl _).drew) _ _⟩
  case round =>
    obtain ⟨k, hk, rfl, hown⟩ := hrel
    by_cases hlt : k < n
    · have hlti : (k : Int) < (n : Int) := by omega
      have hji : (j : Int) < (n : Int) := by omega
      obtain ⟨b3, o3, e3, h3⟩ := (HR.out.gr hown.2).at hlt
      have c3 := h3 k hlt
      have c4 := h3 j hj
      have fk := HF.out k hlt
      have fj := HF.out j hj
      subst e3
      clear h3
      by_cases h1 : k = j
      · have n1 : ¬ ((k : Int) = (i : Int)) := by omega
        have n2 : ((k : Int) != (j : Int)) = false := by simp; omega
        have n3 : ((k : Int) == (i : Int)) = false := by simp; omega
        have hown' := Lib.hid (show OwnI w 3 wr _ (if k + 1 ≤ j then k + 1 else k + 1 - 1) F by rw [if_neg (by omega)]; rw [if_pos (by omega)] at hown; exact hown)
        clear hown
        subst h1
        go_wp2_with fail
        go_roundw
        case rel => exact ⟨k + 1, hlt, by go_num, hown'.out⟩
        case measure => simp [intOf]; omega
      · have n2 : ((k : Int) != (j : Int)) = true := by simp; omega
        obtain ⟨m, hm⟩ : ∃ m, (if k ≤ j then k else k - 1) = m := ⟨_, rfl⟩
        rw [hm] at hown
        have hm2 : (if k + 1 ≤ j then k + 1 else k + 1 - 1) = m + 1 := by rw [← hm]; repeat' split
                                                                          all_goals omega
        have M2 := Lib.hid hm2
        have m9 : m < 1000000000 := by rw [← hm]; split <;> omega
        by_cases h2 : k = i
        · have E := Lib.hid (show F m = f k + f j by
            rw [EF.out, show m = k by rw [← hm, if_pos (by omega)], if_pos (by omega), if_pos h2])
          have q1 : IntKind.i64.wrap (f k + f j) = f k + f j := IntWalk.i64_in _ (by omega)
          clear hm hm2
          subst h2
          go_wp2_with (at_builtin; go_must (refine wpList_app_int rfl _ _ 22 3 rfl Try.underlying22 Try.info3 _ m _ rfl (hown.alloc _) _ _ rfl (cell_new1 _ _ _) E.out m9 ?_); intro v1 w1 hown1 _)
          go_roundw
          case rel => exact ⟨k + 1, hlt, by go_num, by rw [M2.out]; exact hown1⟩
          case measure => simp [intOf]; omega
        · have n3 : ((k : Int) == (i : Int)) = false := by simp; omega
          have n4 : ¬ ((k : Int) = (i : Int)) := by omega
          have E := Lib.hid (show F m = f k by
            rw [EF.out]
            by_cases h3 : k ≤ j
            · rw [show m = k by rw [← hm, if_pos h3], if_pos (by omega), if_neg h2, Int.add_zero]
            · have : m + 1 = k := by rw [← hm, if_neg h3]; omega
              rw [if_neg (by omega), if_neg (by omega), Int.add_zero, this])
          clear hm hm2
          go_wp2_with (at_builtin; go_must (refine wpList_app_int rfl _ _ 22 3 rfl Try.underlying22 Try.info3 _ m _ rfl (hown.alloc _) _ _ rfl (cell_new1 _ _ _) E.out m9 ?_); intro v1 w1 hown1 _)
          go_roundw
          case rel => exact ⟨k + 1, hlt, by go_num, by rw [M2.out]; exact hown1⟩
          case measure => simp [intOf]; omega
    · obtain rfl : k = n := by omega
      rw [if_neg (by omega)] at hown
      obtain ⟨a1, c1, rfl, h1, h2, h3⟩ := hown.rd
      go_wp2_with fail
      go_ret
      exact ⟨a1, c1, rfl, h1, h2, h3, hown.2⟩

end Go.Proofs.Ytohcnicadbpbbaa
