/- Contracts of chapter 2: the most and the first trigger where there is an error; of the program and of the reference. -/
import Derived.Test.YtjokheeegcilhaaDoorWM
import Derived.Test.YtjokheeegcilhaaDoorWI
namespace Go.Proofs.YtjokheeegcilhaaDoor
open Go.RowKit Go.Firn Go.Shelf Go.Sort

set_option maxHeartbeats 2000000 in
theorem Most_no (adr : Option Addr) (n c : Nat) (P T : Nat → Int) (wi : Int) (w : World) (hn : n ≤ 1000) (hr : RdM w adr n P T) (hw : WfH n P T) (hv : vH n P T = false) :
    Calls Tryd.prog 49 #[.slice adr n c, .int .i64 wi] w (RetMo 0 0 20 w) := by
  have CV := Lib.hid (fun w1 (k : Gr w w1) => Valid_any adr n c P T w1 hn hw (hr.gr k))
  rw [hv] at CV
  clear hr hw
  obtain ⟨W1, hW1⟩ : ∃ W1, (w.alloc (.cells #[.int .i64 0] 3)).alloc (.cells #[.int .i64 0] 3) = W1 := ⟨_, rfl⟩
  have G1 := Lib.hid (show Gr w W1 by rw [← hW1]; exact ((Gr.refl w).alloc _).alloc _)
  have B4 := Lib.hid (show W1.cell? ⟨w.heap.size, 0, none⟩ = some (.int .i64 0) ∧ W1.frozen? ⟨w.heap.size, 0, none⟩ = false by rw [← hW1]; exact ((Gr.refl _).alloc _).fresh' rfl rfl)
  have B5 := Lib.hid (show W1.cell? ⟨w.heap.size + 1, 0, none⟩ = some (.int .i64 0) ∧ W1.frozen? ⟨w.heap.size + 1, 0, none⟩ = false by rw [← hW1]; exact (Gr.refl _).fresh' (by simp) rfl)
  go_enter Tryd.func49, Tryd.ntmps49
  go_wp2_with (first
    | (go_at_call 26; (with_reducible refine (CV.out _ G1.out).mono ?_); rintro e w2 ⟨rfl, g2⟩; have G2 := Lib.hid (G1.out.trans g2); have M2 := Lib.hid (show Mb w2 w.heap.size (w.heap.size + 1) 0 0 from (Mb.mk B4.out.1 B4.out.2 B5.out.1 B5.out.2).gr g2); obtain ⟨k4, l4, k5, l5⟩ := M2.out; clear g2))
  have m4 := M2.out.put (show w.heap.size ≠ w.heap.size + 1 by omega) 0 0
  have c4 := m4.c4
  have c5 := m4.c5
  have gw := (G2.out.setCell (p := ⟨w.heap.size, 0, none⟩) (Nat.le_refl _) (.int .i64 0)).setCell (p := ⟨w.heap.size + 1, 0, none⟩) (Nat.le_succ _) (.int .i64 0)
  exact bodyPost_ret (v := .tuple #[.int .i64 0, .int .i64 0, .int .i64 20]) (by simp [results, Tryd.results49, go_sem, c4, c5]) rfl ⟨rfl, gw⟩

set_option maxHeartbeats 2000000 in
theorem Most_bad (adr : Option Addr) (n c : Nat) (P T : Nat → Int) (wi : Int) (w : World) (hn : n ≤ 1000) (hr : RdM w adr n P T) (hw : WfH n P T) (hv : vH n P T = true) (hb : btw 0 wi 2000 = false) :
    Calls Tryd.prog 49 #[.slice adr n c, .int .i64 wi] w (RetMo 0 0 2 w) := by
  have CV := Lib.hid (fun w1 (k : Gr w w1) => Valid_any adr n c P T w1 hn hw (hr.gr k))
  rw [hv] at CV
  have CW := Lib.hid (fun w1 => isWithin_any wi w1)
  rw [hb] at CW
  clear hr hw
  obtain ⟨W1, hW1⟩ : ∃ W1, (w.alloc (.cells #[.int .i64 0] 3)).alloc (.cells #[.int .i64 0] 3) = W1 := ⟨_, rfl⟩
  have G1 := Lib.hid (show Gr w W1 by rw [← hW1]; exact ((Gr.refl w).alloc _).alloc _)
  have B4 := Lib.hid (show W1.cell? ⟨w.heap.size, 0, none⟩ = some (.int .i64 0) ∧ W1.frozen? ⟨w.heap.size, 0, none⟩ = false by rw [← hW1]; exact ((Gr.refl _).alloc _).fresh' rfl rfl)
  have B5 := Lib.hid (show W1.cell? ⟨w.heap.size + 1, 0, none⟩ = some (.int .i64 0) ∧ W1.frozen? ⟨w.heap.size + 1, 0, none⟩ = false by rw [← hW1]; exact (Gr.refl _).fresh' (by simp) rfl)
  go_enter Tryd.func49, Tryd.ntmps49
  go_wp2_with (first
    | (go_at_call 26; (with_reducible refine (CV.out _ G1.out).mono ?_); rintro e w2 ⟨rfl, g2⟩; have G2 := Lib.hid (G1.out.trans g2); have M2 := Lib.hid (show Mb w2 w.heap.size (w.heap.size + 1) 0 0 from (Mb.mk B4.out.1 B4.out.2 B5.out.1 B5.out.2).gr g2); obtain ⟨k4, l4, k5, l5⟩ := M2.out; clear g2)
    | (go_at_call 90; (with_reducible refine (CW.out _).mono ?_); rintro e w3 ⟨rfl, rfl⟩))
  have m4 := M2.out.put (show w.heap.size ≠ w.heap.size + 1 by omega) 0 0
  have c4 := m4.c4
  have c5 := m4.c5
  have gw := (G2.out.setCell (p := ⟨w.heap.size, 0, none⟩) (Nat.le_refl _) (.int .i64 0)).setCell (p := ⟨w.heap.size + 1, 0, none⟩) (Nat.le_succ _) (.int .i64 0)
  exact bodyPost_ret (v := .tuple #[.int .i64 0, .int .i64 0, .int .i64 2]) (by simp [results, Tryd.results49, go_sem, c4, c5]) rfl ⟨rfl, gw⟩

set_option maxHeartbeats 2000000 in
theorem Trigger_no (adr : Option Addr) (n c : Nat) (P T : Nat → Int) (N wi : Int) (w : World) (hn : n ≤ 1000) (hr : RdM w adr n P T) (hw : WfH n P T) (hv : vH n P T = false) :
    Calls Tryd.prog 51 #[.slice adr n c, .int .i64 N, .int .i64 wi] w (RetTr 0 20 w) := by
  have CV := Lib.hid (fun w1 (k : Gr w w1) => Valid_any adr n c P T w1 hn hw (hr.gr k))
  rw [hv] at CV
  clear hr hw
  obtain ⟨W1, hW1⟩ : ∃ W1, ((w.alloc (.cells #[.int .i64 N] 3)).alloc (.cells #[.int .i64 0] 3)).alloc (.cells #[.int .i64 0] 26) = W1 := ⟨_, rfl⟩
  have G1 := Lib.hid (show Gr w W1 by rw [← hW1]; exact (((Gr.refl w).alloc _).alloc _).alloc _)
  have B4 := Lib.hid (show W1.cell? ⟨w.heap.size, 0, none⟩ = some (.int .i64 N) by rw [← hW1]; exact ((((Gr.refl _).alloc _).alloc _).fresh' rfl rfl).1)
  have B6 := Lib.hid (show W1.cell? ⟨w.heap.size + 1, 0, none⟩ = some (.int .i64 0) ∧ W1.frozen? ⟨w.heap.size + 1, 0, none⟩ = false by rw [← hW1]; exact ((Gr.refl _).alloc _).fresh' (by simp) rfl)
  have B7 := Lib.hid (show W1.cell? ⟨w.heap.size + 1 + 1, 0, none⟩ = some (.int .i64 0) ∧ W1.frozen? ⟨w.heap.size + 1 + 1, 0, none⟩ = false by rw [← hW1]; exact (Gr.refl _).fresh' (by simp) rfl)
  have n4 := B4.out
  go_enter Tryd.func51, Tryd.ntmps51
  go_wp2_with (first
    | (go_at_call 26; (with_reducible refine (CV.out _ G1.out).mono ?_); rintro e w2 ⟨rfl, g2⟩; have G2 := Lib.hid (G1.out.trans g2); have M2 := Lib.hid (show Mb w2 (w.heap.size + 1) (w.heap.size + 1 + 1) 0 0 from (Mb.mk B6.out.1 B6.out.2 B7.out.1 B7.out.2).gr g2); obtain ⟨k4, l4, k5, l5⟩ := M2.out; have n4 := g2.cell n4; clear g2))
  have m4 := M2.out.put (show w.heap.size + 1 ≠ w.heap.size + 1 + 1 by omega) 0 20
  have c4 := m4.c4
  have c5 := m4.c5
  have gw := (G2.out.setCell (p := ⟨w.heap.size + 1, 0, none⟩) (Nat.le_succ _) (.int .i64 0)).setCell (p := ⟨w.heap.size + 1 + 1, 0, none⟩) (Nat.le_succ_of_le (Nat.le_succ _)) (.int .i64 20)
  exact bodyPost_ret (v := .tuple #[.int .i64 0, .int .i64 20]) (by simp [results, Tryd.results51, go_sem, c4, c5]) rfl ⟨rfl, gw⟩

set_option maxHeartbeats 2000000 in
theorem Trigger_bad (adr : Option Addr) (n c : Nat) (P T : Nat → Int) (N wi : Int) (w : World) (hn : n ≤ 1000) (hr : RdM w adr n P T) (hw : WfH n P T) (hv : vH n P T = true) (hb : (btw 1 N 14 && btw 0 wi 2000) = false) :
    Calls Tryd.prog 51 #[.slice adr n c, .int .i64 N, .int .i64 wi] w (RetTr 0 2 w) := by
  have CV := Lib.hid (fun w1 (k : Gr w w1) => Valid_any adr n c P T w1 hn hw (hr.gr k))
  rw [hv] at CV
  have CW := Lib.hid (fun w1 => isWithin_any wi w1)
  have CB := Lib.hid (fun w1 => between_any 1 N 14 w1)
  clear hr hw
  obtain ⟨W1, hW1⟩ : ∃ W1, ((w.alloc (.cells #[.int .i64 N] 3)).alloc (.cells #[.int .i64 0] 3)).alloc (.cells #[.int .i64 0] 26) = W1 := ⟨_, rfl⟩
  have G1 := Lib.hid (show Gr w W1 by rw [← hW1]; exact (((Gr.refl w).alloc _).alloc _).alloc _)
  have B4 := Lib.hid (show W1.cell? ⟨w.heap.size, 0, none⟩ = some (.int .i64 N) by rw [← hW1]; exact ((((Gr.refl _).alloc _).alloc _).fresh' rfl rfl).1)
  have B6 := Lib.hid (show W1.cell? ⟨w.heap.size + 1, 0, none⟩ = some (.int .i64 0) ∧ W1.frozen? ⟨w.heap.size + 1, 0, none⟩ = false by rw [← hW1]; exact ((Gr.refl _).alloc _).fresh' (by simp) rfl)
  have B7 := Lib.hid (show W1.cell? ⟨w.heap.size + 1 + 1, 0, none⟩ = some (.int .i64 0) ∧ W1.frozen? ⟨w.heap.size + 1 + 1, 0, none⟩ = false by rw [← hW1]; exact (Gr.refl _).fresh' (by simp) rfl)
  have n4 := B4.out
  cases h1 : btw 0 wi 2000 with
  | false =>
    rw [h1] at CW
    clear h1 hb
    go_enter Tryd.func51, Tryd.ntmps51
    go_wp2_with (first
      | (go_at_call 26; (with_reducible refine (CV.out _ G1.out).mono ?_); rintro e w2 ⟨rfl, g2⟩; have G2 := Lib.hid (G1.out.trans g2); have M2 := Lib.hid (show Mb w2 (w.heap.size + 1) (w.heap.size + 1 + 1) 0 0 from (Mb.mk B6.out.1 B6.out.2 B7.out.1 B7.out.2).gr g2); obtain ⟨k4, l4, k5, l5⟩ := M2.out; have n4 := g2.cell n4; clear g2)
      | (go_at_call 90; (with_reducible refine (CW.out _).mono ?_); rintro e w3 ⟨rfl, rfl⟩)
      | (go_at_call 71; (with_reducible refine (CB.out _).mono ?_); rintro e w3 ⟨rfl, rfl⟩))
    have m4 := M2.out.put (show w.heap.size + 1 ≠ w.heap.size + 1 + 1 by omega) 0 2
    have c4 := m4.c4
    have c5 := m4.c5
    have gw := (G2.out.setCell (p := ⟨w.heap.size + 1, 0, none⟩) (Nat.le_succ _) (.int .i64 0)).setCell (p := ⟨w.heap.size + 1 + 1, 0, none⟩) (Nat.le_succ_of_le (Nat.le_succ _)) (.int .i64 2)
    exact bodyPost_ret (v := .tuple #[.int .i64 0, .int .i64 2]) (by simp [results, Tryd.results51, go_sem, c4, c5]) rfl ⟨rfl, gw⟩
  | true =>
    have h2 : btw 1 N 14 = false := by rw [h1] at hb; simpa using hb
    rw [h1] at CW
    rw [h2] at CB
    clear h1 hb h2
    go_enter Tryd.func51, Tryd.ntmps51
    go_wp2_with (first
      | (go_at_call 26; (with_reducible refine (CV.out _ G1.out).mono ?_); rintro e w2 ⟨rfl, g2⟩; have G2 := Lib.hid (G1.out.trans g2); have M2 := Lib.hid (show Mb w2 (w.heap.size + 1) (w.heap.size + 1 + 1) 0 0 from (Mb.mk B6.out.1 B6.out.2 B7.out.1 B7.out.2).gr g2); obtain ⟨k4, l4, k5, l5⟩ := M2.out; have n4 := g2.cell n4; clear g2)
      | (go_at_call 90; (with_reducible refine (CW.out _).mono ?_); rintro e w3 ⟨rfl, rfl⟩)
      | (go_at_call 71; (with_reducible refine (CB.out _).mono ?_); rintro e w3 ⟨rfl, rfl⟩))
    have m4 := M2.out.put (show w.heap.size + 1 ≠ w.heap.size + 1 + 1 by omega) 0 2
    have c4 := m4.c4
    have c5 := m4.c5
    have gw := (G2.out.setCell (p := ⟨w.heap.size + 1, 0, none⟩) (Nat.le_succ _) (.int .i64 0)).setCell (p := ⟨w.heap.size + 1 + 1, 0, none⟩) (Nat.le_succ_of_le (Nat.le_succ _)) (.int .i64 2)
    exact bodyPost_ret (v := .tuple #[.int .i64 0, .int .i64 2]) (by simp [results, Tryd.results51, go_sem, c4, c5]) rfl ⟨rfl, gw⟩

/-- The program and the reference tell the same. -/
theorem most_both (adr : Option Addr) (n c : Nat) (P T : Nat → Int) (wi : Int) (w : World) (hn : n ≤ 1000) (hr : RdM w adr n P T) (hw : WfH n P T) :
    ∃ m a E : Int, (∀ w1, Gr w w1 → Calls Tryd.prog 49 #[.slice adr n c, .int .i64 wi] w1 (RetMo m a E w1)) ∧ ∀ w1, Gr w w1 → Calls Tryd.prog 50 #[.slice adr n c, .int .i64 wi] w1 (RetMo m a E w1) := by
  cases hv : vH n P T with
  | false => exact ⟨0, 0, 20, fun w1 k => Most_no adr n c P T wi w1 hn (hr.gr k) hw hv, fun w1 k => refMost_no adr n c P T wi w1 hn (hr.gr k) hv⟩
  | true =>
    cases hb : btw 0 wi 2000 with
    | false => exact ⟨0, 0, 2, fun w1 k => Most_bad adr n c P T wi w1 hn (hr.gr k) hw hv hb, fun w1 k => refMost_bad adr n c P T wi w1 hn (hr.gr k) hv hb⟩
    | true =>
      have V := vH_iff.1 hv
      have b : 0 ≤ wi ∧ wi ≤ 2000 := by unfold btw at hb; simpa using hb
      have R := refM_is (T := T) (c := cI T n wi) (n := n) (fun i hi => by have := cnT_pos (T := T) b.1 hi; unfold cI; omega) (k := n - 1) (by have := V.pos; omega)
      rw [show n - 1 + 1 = n by have := V.pos; omega] at R
      refine ⟨_, _, 0, fun w1 k => (Most_ok adr n c P T wi w1 (hr.gr k) hw V b).mono fun e w2 ⟨m, a, I, h⟩ => ?_, fun w1 k => refMost_ok adr n c P T wi w1 (hr.gr k) V b⟩
      obtain ⟨rfl, rfl⟩ := I.unique R
      exact h
theorem trig_both (adr : Option Addr) (n c : Nat) (P T : Nat → Int) (N wi : Int) (w : World) (hn : n ≤ 1000) (hr : RdM w adr n P T) (hw : WfH n P T) :
    ∃ t E : Int, (∀ w1, Gr w w1 → Calls Tryd.prog 51 #[.slice adr n c, .int .i64 N, .int .i64 wi] w1 (RetTr t E w1)) ∧ ∀ w1, Gr w w1 → Calls Tryd.prog 52 #[.slice adr n c, .int .i64 N, .int .i64 wi] w1 (RetTr t E w1) := by
  cases hv : vH n P T with
  | false => exact ⟨0, 20, fun w1 k => Trigger_no adr n c P T N wi w1 hn (hr.gr k) hw hv, fun w1 k => refTrigger_no adr n c P T N wi w1 hn (hr.gr k) hv⟩
  | true =>
    cases hb : btw 1 N 14 && btw 0 wi 2000 with
    | false => exact ⟨0, 2, fun w1 k => Trigger_bad adr n c P T N wi w1 hn (hr.gr k) hw hv hb, fun w1 k => refTrigger_bad adr n c P T N wi w1 hn (hr.gr k) hv hb⟩
    | true =>
      have V := vH_iff.1 hv
      have b : (1 ≤ N ∧ N ≤ 14) ∧ 0 ≤ wi ∧ wi ≤ 2000 := by unfold btw at hb; simpa using hb
      have ex : ∃ t E, IsT T (cI T n wi) n N t E := by
        by_cases h : ∃ i, i < n ∧ N ≤ cI T n wi (T i)
        · have key : ∀ m, m ≤ n → (∃ i, i < m ∧ N ≤ cI T n wi (T i)) → ∃ i, i < m ∧ N ≤ cI T n wi (T i) ∧ ∀ j, j < m → N ≤ cI T n wi (T j) → T i ≤ T j := by
            intro m
            induction m with
            | zero => rintro _ ⟨i, hi, _⟩; omega
            | succ m ih =>
              intro hm _
              by_cases e : ∃ i, i < m ∧ N ≤ cI T n wi (T i)
              · obtain ⟨i, hi, h1, h2⟩ := ih (by omega) e
                by_cases g : N ≤ cI T n wi (T m) ∧ T m < T i
                · exact ⟨m, by omega, g.1, fun j hj h3 => by
                    by_cases q : j = m
                    · subst q; exact Int.le_refl _
                    · have := h2 j (by omega) h3; omega⟩
                · refine ⟨i, by omega, h1, fun j hj h3 => ?_⟩
                  by_cases q : j = m
                  · subst q
                    by_cases r : T j < T i
                    · exact absurd ⟨h3, r⟩ g
                    · omega
                  · exact h2 j (by omega) h3
              · rename_i hx
                obtain ⟨i, hi, h1⟩ := hx
                have : i = m := by
                  by_cases q : i = m
                  · exact q
                  · exact absurd ⟨i, by omega, h1⟩ e
                subst this
                exact ⟨i, by omega, h1, fun j hj h3 => by
                  by_cases q : j = i
                  · subst q; exact Int.le_refl _
                  · exact absurd ⟨j, by omega, h3⟩ e⟩
          obtain ⟨i, hi, h1, h2⟩ := key n (Nat.le_refl n) h
          exact ⟨T i, 0, .inl ⟨rfl, ⟨i, hi, rfl, h1⟩, h2⟩⟩
        · exact ⟨0, 5, .inr ⟨rfl, rfl, fun i hi => by
            by_cases q : cI T n wi (T i) < N
            · exact q
            · exact absurd ⟨i, hi, by omega⟩ h⟩⟩
      obtain ⟨t, E, R⟩ := ex
      refine ⟨t, E, fun w1 k => (Trigger_ok adr n c P T N wi w1 (hr.gr k) hw V b.2 b.1).mono fun e w2 ⟨t', E', I, h⟩ => ?_, fun w1 k => (refTrigger_ok adr n c P T N wi w1 (hr.gr k) V b.2 b.1).mono fun e w2 ⟨t', E', I, h⟩ => ?_⟩
      · obtain ⟨rfl, rfl⟩ := I.unique R
        exact h
      · obtain ⟨rfl, rfl⟩ := I.unique R
        exact h

end Go.Proofs.YtjokheeegcilhaaDoor
