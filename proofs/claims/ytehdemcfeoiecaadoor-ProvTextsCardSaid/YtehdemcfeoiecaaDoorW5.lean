/- Contracts of chapter 9: numbers of tokens, Value and Cost of the program and of the reference, the statements' own functions. -/
import Derived.Test.YtehdemcfeoiecaaDoorW4
namespace Go.Proofs.YtehdemcfeoiecaaDoor
open Go.RowKit Go.Firn Go.Shelf

theorem within1_any (x B : Int) (bx : Nat) (w : World) (hb : w.cell? ⟨bx, 0, none⟩ = some (.int .i64 B)) : Calls Tryd.prog 57 #[.int .i64 x, .pointer (some ⟨bx, 0, none⟩)] w fun e w' => e = .returned (.bool (!btw 0 x B)) ∧ w' = w := by
  have C := Lib.hid (fun w' => between_any 0 x B w')
  go_enter Tryd.func57, Tryd.ntmps57
  go_wp2_with (go_at_call 58; (with_reducible refine (C.out _).mono ?_); rintro e w1 ⟨rfl, rfl⟩)
  go_ret
  exact ⟨rfl, rfl⟩

theorem within_any (a : Option Addr) (n c : Nat) (l : Nat → Int) (B : Int) (w : World) (hn : n ≤ 9223372036854775807) (hr : RdI w a n l) :
    Calls Tryd.prog 32 #[.slice a n c, .int .i64 B] w (RetB (nmB l n B) w) := by
  have G0 := Lib.hid ((Gr.refl w).alloc (.cells #[.int .i64 B] 3))
  have hmf : ∀ (fn : Fn) (first cap : Array Value) (w : World), (Instr.makeFunc fn first cap).run Tryd.prog w = .ok (.func fn first cap) w := fun _ _ _ _ => rfl
  by_cases h8 : n = 8
  · subst h8
    obtain ⟨b, o, rfl, hc⟩ := hr.at (show 0 < 8 by omega)
    have hb := cell_new1 w (.int .i64 B) 3
    have CC := Lib.hid (show Calls Tryd.prog 56 #[.slice (some ⟨b, o, none⟩) 8 c, .func (.func 57) #[] #[.pointer (some ⟨w.heap.size, 0, none⟩)]] (w.alloc (.cells #[.int .i64 B] 3)) fun e w' => e = .returned (.bool ((((List.range 8).map l).take 8).any fun x => !btw 0 x B)) ∧ ∃ q, w' = (w.alloc (.cells #[.int .i64 B] 3)).drewN q from AnyE.slices_ContainsFunc Tryd.cont8 (Value.int .i64) (fun x => !btw 0 x B) 57 #[.pointer (some ⟨w.heap.size, 0, none⟩)] (enters_of Tryd.func57 (by kernel_rfl) rfl) b o 8 c ((List.range 8).map l) (w.alloc (.cells #[.int .i64 B] 3))
      (fun W x k => by
        refine (within1_any x B w.heap.size W (Gr.cell k hb)).mono ?_
        rintro e w' ⟨rfl, rfl⟩
        exact ⟨rfl, 0, rfl⟩) (by simp) (by omega) (fun j hj => by
        have hj' : j < 8 := by simpa using hj
        rw [G0.out.cell (hc j hj')]
        simp [hj']))
    have E := Lib.hid (show (!((((List.range 8).map l).take 8).any fun x => !btw 0 x B)) = nmB l 8 B by
      unfold nmB nmK
      rw [List.take_of_length_le (by simp)]
      rw [Bool.eq_iff_iff]
      simp)
    clear hc hr
    generalize ((((List.range 8).map l).take 8).any fun x => !btw 0 x B) = v at *
    generalize nmB l 8 B = nm at *
    go_enter Tryd.func32, Tryd.ntmps32
    go_wp2_with (go_at_call 56; (with_reducible refine CC.out.mono ?_); rintro e w1 ⟨rfl, q, rfl⟩)
    go_ret
    exact ⟨by rw [← E.out]; rfl, G0.out.drewN _⟩
  · have E := Lib.hid (show nmB l n B = false by unfold nmB; rw [decide_eq_false h8]; simp)
    have z1 : ((n : Int) == 8) = false := by simp; omega
    clear h8
    go_enter Tryd.func32, Tryd.ntmps32
    go_wp2_with fail
    go_ret
    rw [E.out]
    exact ⟨rfl, G0.out⟩

theorem AreNumbers_any (a : Option Addr) (n c : Nat) (l : Nat → Int) (B : Int) (w : World) (hn : n ≤ 9223372036854775807) (hr : RdI w a n l) :
    Calls Tryd.prog 23 #[.slice a n c, .int .i64 B] w (RetB (nmB l n B) w) := by
  have HR := Lib.hid hr
  clear hr
  go_enter Tryd.func23, Tryd.ntmps23
  go_wp2
  go_loopw [9] (fun si wr => ∃ k : Nat, k ≤ n ∧ si = .int .i64 k ∧ Hid (nmK l B k = true) ∧ wr = w) (fun si _ => n - (intOf si).toNat)
  case atStart => exact ⟨0, Nat.zero_le _, rfl, nmK_zero l B, rfl⟩
  case round =>
    obtain ⟨k, hk, rfl, hK, hw⟩ := hrel
    subst hw
    by_cases hlt : k < n
    · have i1 : (k : Int) < (n : Int) := by omega
      obtain ⟨b, o, rfl, hc⟩ := HR.out.at hlt
      have ck := hc k hlt
      have KS := Lib.hid (show btw 0 (l k) B = true → nmK l B (k + 1) = true from fun h => by rw [nmK_succ, hK.out, h]; rfl)
      have KF := Lib.hid (show btw 0 (l k) B = false → nmB l n B = false from fun h => by unfold nmB; rw [nmK_stop hlt h]; rfl)
      clear hc
      generalize l k = x at *
      by_cases h1 : x < 0
      · have F := Lib.hid (KF.out (by unfold btw; rw [decide_eq_false (by omega)]; rfl))
        go_wp2_with fail
        go_ret
        rw [F.out]
        exact ⟨rfl, Gr.refl _⟩
      by_cases h2 : B < x
      · have F := Lib.hid (KF.out (by unfold btw; rw [decide_eq_false (show ¬ x ≤ B by omega)]; simp))
        go_wp2_with fail
        go_ret
        rw [F.out]
        exact ⟨rfl, Gr.refl _⟩
      have F := Lib.hid (KS.out (by unfold btw; rw [decide_eq_true (show 0 ≤ x by omega), decide_eq_true (show x ≤ B by omega)]; rfl))
      go_wp2_with fail
      go_roundw
      case rel => exact ⟨k + 1, hlt, by go_num, F, by trivial⟩
      case measure => simp [intOf]; omega
    · obtain rfl : k = n := by omega
      have i1 : ¬ (k : Int) < (k : Int) := by omega
      have E := Lib.hid (show nmB l k B = ((k : Int) == 8) by unfold nmB; rw [hK.out, Bool.true_and, Bool.eq_iff_iff]; simp; omega)
      go_wp2_with fail
      go_ret
      rw [E.out]
      exact ⟨rfl, Gr.refl _⟩

/-- A number and an error. -/
def RetNE (t E : Int) (w : World) (e : Ending) (w' : World) : Prop := e = .returned (.tuple #[.int .i64 t, .int .i64 E]) ∧ Gr w w'
/-- What Value tells, and Cost. -/
def VlN (f : Nat → ByteArray) (g : Nat → Int) (n : Nat) (l : Nat → Int) (m : Nat) : Int := if vS f g n = true then (if nmB l m 10 = true then vlS l f g n else 0) else 0
def VlE (f : Nat → ByteArray) (g : Nat → Int) (n : Nat) (l : Nat → Int) (m : Nat) : Int := if vS f g n = true then (if nmB l m 10 = true then 0 else 2) else 92
def CsN (f : Nat → ByteArray) (g : Nat → Int) (n : Nat) (l : Nat → Int) (m : Nat) : Int := if vS f g n = true then (if nmB l m 1000 = true then (if n = 0 then 0 else mnR (csP l f) n) else 0) else 0
def CsE (f : Nat → ByteArray) (g : Nat → Int) (n : Nat) (l : Nat → Int) (m : Nat) : Int := if vS f g n = true then (if nmB l m 1000 = true then (if n = 0 then 5 else 0) else 2) else 92

/-! ## Value and Cost -/

set_option maxHeartbeats 2000000 in
theorem Value_any (a a' : Option Addr) (n c m c' : Nat) (f : Nat → ByteArray) (g : Nat → Int) (l : Nat → Int) (w : World) (hn : n ≤ 9223372036854775807) (hz : ∀ i, i < n → (f i).size ≤ 9223372036854775807) (hm : m ≤ 9223372036854775807) (hr : RdS w a n f g) (hl : RdI w a' m l) :
    Calls Tryd.prog 11 #[.slice a n c, .slice a' m c'] w (RetNE (VlN f g n l m) (VlE f g n l m) w) := by
  have C1 := Lib.hid (fun w1 (k : Gr w w1) => ValidSum_any a n c f g w1 hn hz (hr.gr k))
  have C2 := Lib.hid (fun w1 (k : Gr w w1) => within_any a' m c' l 10 w1 hm (hl.gr k))
  cases h1 : vS f g n with
  | false =>
    have e1 : VlN f g n l m = 0 := by unfold VlN; rw [h1]; rfl
    have e2 : VlE f g n l m = 92 := by unfold VlE; rw [h1]; rfl
    rw [e1, e2]
    rw [h1] at C1
    clear e1 e2 h1 hr hl hz
    go_enter Tryd.func11, Tryd.ntmps11
    go_wp2_with (go_at_call 19; (with_reducible refine (C1.out _ (Gr.refl _)).mono ?_); rintro e w1 ⟨rfl, g1⟩; have G1 := Lib.hid g1; clear g1)
    exact bodyPost_ret (v := .tuple #[.int .i64 0, .int .i64 92]) (by simp [results, Tryd.results11, go_sem]) rfl ⟨rfl, G1.out⟩
  | true =>
    cases h2 : nmB l m 10 with
    | false =>
      have e1 : VlN f g n l m = 0 := by unfold VlN; rw [h1, h2]; rfl
      have e2 : VlE f g n l m = 2 := by unfold VlE; rw [h1, h2]; rfl
      rw [e1, e2]
      rw [h1] at C1
      rw [h2] at C2
      clear e1 e2 h1 h2 hr hl hz
      go_enter Tryd.func11, Tryd.ntmps11
      go_wp2_with (first
        | (go_at_call 19; (with_reducible refine (C1.out _ (Gr.refl _)).mono ?_); rintro e w1 ⟨rfl, g1⟩; have G1 := Lib.hid g1; clear g1)
        | (go_at_call 32; (with_reducible refine (C2.out _ G1.out).mono ?_); rintro e w2 ⟨rfl, g2⟩; have G2 := Lib.hid (G1.out.trans g2); clear g2))
      exact bodyPost_ret (v := .tuple #[.int .i64 0, .int .i64 2]) (by simp [results, Tryd.results11, go_sem]) rfl ⟨rfl, G2.out⟩
    | true =>
      obtain ⟨rfl, hb⟩ := nmB_at h2
      have e1 : VlN f g n l 8 = vlS l f g n := by unfold VlN; rw [h1, h2]; rfl
      have e2 : VlE f g n l 8 = 0 := by unfold VlE; rw [h1, h2]; rfl
      have C3 := Lib.hid (fun w1 (k : Gr w w1) => value_any a a' n c c' f g l w1 h1 (hr.gr k) (hl.gr k) hb)
      rw [e1, e2]
      rw [h1] at C1
      rw [h2] at C2
      clear e1 e2 h1 h2 hr hl hz hb
      generalize vlS l f g n = v at *
      go_enter Tryd.func11, Tryd.ntmps11
      go_wp2_with (first
        | (go_at_call 19; (with_reducible refine (C1.out _ (Gr.refl _)).mono ?_); rintro e w1 ⟨rfl, g1⟩; have G1 := Lib.hid g1; clear g1)
        | (go_at_call 32; (with_reducible refine (C2.out _ G1.out).mono ?_); rintro e w2 ⟨rfl, g2⟩; have G2 := Lib.hid (G1.out.trans g2); clear g2)
        | (go_at_call 33; (with_reducible refine (C3.out _ G2.out).mono ?_); rintro e w3 ⟨rfl, g3⟩; have G3 := Lib.hid (G2.out.trans g3); clear g3))
      exact bodyPost_ret (v := .tuple #[.int .i64 v, .int .i64 0]) (by simp [results, Tryd.results11, go_sem]) rfl ⟨rfl, G3.out⟩

set_option maxHeartbeats 2000000 in
theorem refValue_any (a a' : Option Addr) (n c m c' : Nat) (f : Nat → ByteArray) (g : Nat → Int) (l : Nat → Int) (w : World) (hn : n ≤ 9223372036854775807) (hz : ∀ i, i < n → (f i).size ≤ 9223372036854775807) (hm : m ≤ 9223372036854775807) (hr : RdS w a n f g) (hl : RdI w a' m l) :
    Calls Tryd.prog 12 #[.slice a n c, .slice a' m c'] w (RetNE (VlN f g n l m) (VlE f g n l m) w) := by
  have C1 := Lib.hid (fun w1 (k : Gr w w1) => refValidSum_any a n c f g w1 hn hz (hr.gr k))
  have C2 := Lib.hid (fun w1 (k : Gr w w1) => AreNumbers_any a' m c' l 10 w1 hm (hl.gr k))
  cases h1 : vS f g n with
  | false =>
    have e1 : VlN f g n l m = 0 := by unfold VlN; rw [h1]; rfl
    have e2 : VlE f g n l m = 92 := by unfold VlE; rw [h1]; rfl
    rw [e1, e2]
    rw [h1] at C1
    clear e1 e2 h1 hr hl hz
    go_enter Tryd.func12, Tryd.ntmps12
    go_wp2_with (go_at_call 20; (with_reducible refine (C1.out _ (Gr.refl _)).mono ?_); rintro e w1 ⟨rfl, g1⟩; have G1 := Lib.hid g1; clear g1)
    exact bodyPost_ret (v := .tuple #[.int .i64 0, .int .i64 92]) (by simp [results, Tryd.results12, go_sem]) rfl ⟨rfl, G1.out⟩
  | true =>
    cases h2 : nmB l m 10 with
    | false =>
      have e1 : VlN f g n l m = 0 := by unfold VlN; rw [h1, h2]; rfl
      have e2 : VlE f g n l m = 2 := by unfold VlE; rw [h1, h2]; rfl
      rw [e1, e2]
      rw [h1] at C1
      rw [h2] at C2
      clear e1 e2 h1 h2 hr hl hz
      go_enter Tryd.func12, Tryd.ntmps12
      go_wp2_with (first
        | (go_at_call 20; (with_reducible refine (C1.out _ (Gr.refl _)).mono ?_); rintro e w1 ⟨rfl, g1⟩; have G1 := Lib.hid g1; clear g1)
        | (go_at_call 23; (with_reducible refine (C2.out _ G1.out).mono ?_); rintro e w2 ⟨rfl, g2⟩; have G2 := Lib.hid (G1.out.trans g2); clear g2))
      exact bodyPost_ret (v := .tuple #[.int .i64 0, .int .i64 2]) (by simp [results, Tryd.results12, go_sem]) rfl ⟨rfl, G2.out⟩
    | true =>
      obtain ⟨rfl, hb⟩ := nmB_at h2
      have e1 : VlN f g n l 8 = vlS l f g n := by unfold VlN; rw [h1, h2]; rfl
      have e2 : VlE f g n l 8 = 0 := by unfold VlE; rw [h1, h2]; rfl
      have C3 := Lib.hid (fun w1 (k : Gr w w1) => refvalue_any a a' n c c' f g l w1 h1 (hr.gr k) (hl.gr k) hb)
      rw [e1, e2]
      rw [h1] at C1
      rw [h2] at C2
      clear e1 e2 h1 h2 hr hl hz hb
      generalize vlS l f g n = v at *
      go_enter Tryd.func12, Tryd.ntmps12
      go_wp2_with (first
        | (go_at_call 20; (with_reducible refine (C1.out _ (Gr.refl _)).mono ?_); rintro e w1 ⟨rfl, g1⟩; have G1 := Lib.hid g1; clear g1)
        | (go_at_call 23; (with_reducible refine (C2.out _ G1.out).mono ?_); rintro e w2 ⟨rfl, g2⟩; have G2 := Lib.hid (G1.out.trans g2); clear g2)
        | (go_at_call 34; (with_reducible refine (C3.out _ G2.out).mono ?_); rintro e w3 ⟨rfl, g3⟩; have G3 := Lib.hid (G2.out.trans g3); clear g3))
      exact bodyPost_ret (v := .tuple #[.int .i64 v, .int .i64 0]) (by simp [results, Tryd.results12, go_sem]) rfl ⟨rfl, G3.out⟩

set_option maxHeartbeats 2000000 in
theorem Cost_any (a a' : Option Addr) (n c m c' : Nat) (f : Nat → ByteArray) (g : Nat → Int) (l : Nat → Int) (w : World) (hn : n ≤ 9223372036854775807) (hz : ∀ i, i < n → (f i).size ≤ 9223372036854775807) (hm : m ≤ 9223372036854775807) (hr : RdS w a n f g) (hl : RdI w a' m l) :
    Calls Tryd.prog 13 #[.slice a n c, .slice a' m c'] w (RetNE (CsN f g n l m) (CsE f g n l m) w) := by
  have C1 := Lib.hid (fun w1 (k : Gr w w1) => ValidSum_any a n c f g w1 hn hz (hr.gr k))
  have C2 := Lib.hid (fun w1 (k : Gr w w1) => within_any a' m c' l 1000 w1 hm (hl.gr k))
  cases h1 : vS f g n with
  | false =>
    have e1 : CsN f g n l m = 0 := by unfold CsN; rw [h1]; rfl
    have e2 : CsE f g n l m = 92 := by unfold CsE; rw [h1]; rfl
    rw [e1, e2]
    rw [h1] at C1
    clear e1 e2 h1 hr hl hz
    go_enter Tryd.func13, Tryd.ntmps13
    go_wp2_with (go_at_call 19; (with_reducible refine (C1.out _ (Gr.refl _)).mono ?_); rintro e w1 ⟨rfl, g1⟩; have G1 := Lib.hid g1; clear g1)
    exact bodyPost_ret (v := .tuple #[.int .i64 0, .int .i64 92]) (by simp [results, Tryd.results13, go_sem]) rfl ⟨rfl, G1.out⟩
  | true =>
    cases h2 : nmB l m 1000 with
    | false =>
      have e1 : CsN f g n l m = 0 := by unfold CsN; rw [h1, h2]; rfl
      have e2 : CsE f g n l m = 2 := by unfold CsE; rw [h1, h2]; rfl
      rw [e1, e2]
      rw [h1] at C1
      rw [h2] at C2
      clear e1 e2 h1 h2 hr hl hz
      go_enter Tryd.func13, Tryd.ntmps13
      go_wp2_with (first
        | (go_at_call 19; (with_reducible refine (C1.out _ (Gr.refl _)).mono ?_); rintro e w1 ⟨rfl, g1⟩; have G1 := Lib.hid g1; clear g1)
        | (go_at_call 32; (with_reducible refine (C2.out _ G1.out).mono ?_); rintro e w2 ⟨rfl, g2⟩; have G2 := Lib.hid (G1.out.trans g2); clear g2))
      exact bodyPost_ret (v := .tuple #[.int .i64 0, .int .i64 2]) (by simp [results, Tryd.results13, go_sem]) rfl ⟨rfl, G2.out⟩
    | true =>
      obtain ⟨rfl, hb⟩ := nmB_at h2
      by_cases h0 : n = 0
      · have e1 : CsN f g n l 8 = 0 := by unfold CsN; rw [h1, h2, if_pos h0]; rfl
        have e2 : CsE f g n l 8 = 5 := by unfold CsE; rw [h1, h2, if_pos h0]; rfl
        rw [e1, e2]
        rw [h1] at C1
        rw [h2] at C2
        have z1 : ((n : Int) == 0) = true := by simp [h0]
        clear e1 e2 h1 h2 hr hl hz hb h0
        go_enter Tryd.func13, Tryd.ntmps13
        go_wp2_with (first
          | (go_at_call 19; (with_reducible refine (C1.out _ (Gr.refl _)).mono ?_); rintro e w1 ⟨rfl, g1⟩; have G1 := Lib.hid g1; clear g1)
          | (go_at_call 32; (with_reducible refine (C2.out _ G1.out).mono ?_); rintro e w2 ⟨rfl, g2⟩; have G2 := Lib.hid (G1.out.trans g2); clear g2))
        exact bodyPost_ret (v := .tuple #[.int .i64 0, .int .i64 5]) (by simp [results, Tryd.results13, go_sem]) rfl ⟨rfl, G2.out⟩
      · have e1 : CsN f g n l 8 = mnR (csP l f) n := by unfold CsN; rw [h1, h2, if_neg h0]; rfl
        have e2 : CsE f g n l 8 = 0 := by unfold CsE; rw [h1, h2, if_neg h0]; rfl
        have C3 := Lib.hid (fun w1 (k : Gr w w1) => cost_any a a' n c c' f g l w1 (by omega) h1 (hr.gr k) (hl.gr k) hb)
        rw [e1, e2]
        rw [h1] at C1
        rw [h2] at C2
        have z1 : ((n : Int) == 0) = false := by simp; omega
        clear e1 e2 h1 h2 hr hl hz hb h0
        generalize mnR (csP l f) n = v at *
        go_enter Tryd.func13, Tryd.ntmps13
        go_wp2_with (first
          | (go_at_call 19; (with_reducible refine (C1.out _ (Gr.refl _)).mono ?_); rintro e w1 ⟨rfl, g1⟩; have G1 := Lib.hid g1; clear g1)
          | (go_at_call 32; (with_reducible refine (C2.out _ G1.out).mono ?_); rintro e w2 ⟨rfl, g2⟩; have G2 := Lib.hid (G1.out.trans g2); clear g2)
          | (go_at_call 35; (with_reducible refine (C3.out _ G2.out).mono ?_); rintro e w3 ⟨rfl, g3⟩; have G3 := Lib.hid (G2.out.trans g3); clear g3))
        exact bodyPost_ret (v := .tuple #[.int .i64 v, .int .i64 0]) (by simp [results, Tryd.results13, go_sem]) rfl ⟨rfl, G3.out⟩

set_option maxHeartbeats 2000000 in
theorem refCost_any (a a' : Option Addr) (n c m c' : Nat) (f : Nat → ByteArray) (g : Nat → Int) (l : Nat → Int) (w : World) (hn : n ≤ 9223372036854775807) (hz : ∀ i, i < n → (f i).size ≤ 9223372036854775807) (hm : m ≤ 9223372036854775807) (hr : RdS w a n f g) (hl : RdI w a' m l) :
    Calls Tryd.prog 14 #[.slice a n c, .slice a' m c'] w (RetNE (CsN f g n l m) (CsE f g n l m) w) := by
  have C1 := Lib.hid (fun w1 (k : Gr w w1) => refValidSum_any a n c f g w1 hn hz (hr.gr k))
  have C2 := Lib.hid (fun w1 (k : Gr w w1) => AreNumbers_any a' m c' l 1000 w1 hm (hl.gr k))
  cases h1 : vS f g n with
  | false =>
    have e1 : CsN f g n l m = 0 := by unfold CsN; rw [h1]; rfl
    have e2 : CsE f g n l m = 92 := by unfold CsE; rw [h1]; rfl
    rw [e1, e2]
    rw [h1] at C1
    clear e1 e2 h1 hr hl hz
    go_enter Tryd.func14, Tryd.ntmps14
    go_wp2_with (go_at_call 20; (with_reducible refine (C1.out _ (Gr.refl _)).mono ?_); rintro e w1 ⟨rfl, g1⟩; have G1 := Lib.hid g1; clear g1)
    exact bodyPost_ret (v := .tuple #[.int .i64 0, .int .i64 92]) (by simp [results, Tryd.results14, go_sem]) rfl ⟨rfl, G1.out⟩
  | true =>
    cases h2 : nmB l m 1000 with
    | false =>
      have e1 : CsN f g n l m = 0 := by unfold CsN; rw [h1, h2]; rfl
      have e2 : CsE f g n l m = 2 := by unfold CsE; rw [h1, h2]; rfl
      rw [e1, e2]
      rw [h1] at C1
      rw [h2] at C2
      clear e1 e2 h1 h2 hr hl hz
      go_enter Tryd.func14, Tryd.ntmps14
      go_wp2_with (first
        | (go_at_call 20; (with_reducible refine (C1.out _ (Gr.refl _)).mono ?_); rintro e w1 ⟨rfl, g1⟩; have G1 := Lib.hid g1; clear g1)
        | (go_at_call 23; (with_reducible refine (C2.out _ G1.out).mono ?_); rintro e w2 ⟨rfl, g2⟩; have G2 := Lib.hid (G1.out.trans g2); clear g2))
      exact bodyPost_ret (v := .tuple #[.int .i64 0, .int .i64 2]) (by simp [results, Tryd.results14, go_sem]) rfl ⟨rfl, G2.out⟩
    | true =>
      obtain ⟨rfl, hb⟩ := nmB_at h2
      by_cases h0 : n = 0
      · have e1 : CsN f g n l 8 = 0 := by unfold CsN; rw [h1, h2, if_pos h0]; rfl
        have e2 : CsE f g n l 8 = 5 := by unfold CsE; rw [h1, h2, if_pos h0]; rfl
        rw [e1, e2]
        rw [h1] at C1
        rw [h2] at C2
        have z1 : ((n : Int) == 0) = true := by simp [h0]
        clear e1 e2 h1 h2 hr hl hz hb h0
        go_enter Tryd.func14, Tryd.ntmps14
        go_wp2_with (first
          | (go_at_call 20; (with_reducible refine (C1.out _ (Gr.refl _)).mono ?_); rintro e w1 ⟨rfl, g1⟩; have G1 := Lib.hid g1; clear g1)
          | (go_at_call 23; (with_reducible refine (C2.out _ G1.out).mono ?_); rintro e w2 ⟨rfl, g2⟩; have G2 := Lib.hid (G1.out.trans g2); clear g2))
        exact bodyPost_ret (v := .tuple #[.int .i64 0, .int .i64 5]) (by simp [results, Tryd.results14, go_sem]) rfl ⟨rfl, G2.out⟩
      · have e1 : CsN f g n l 8 = mnR (csP l f) n := by unfold CsN; rw [h1, h2, if_neg h0]; rfl
        have e2 : CsE f g n l 8 = 0 := by unfold CsE; rw [h1, h2, if_neg h0]; rfl
        have C3 := Lib.hid (fun w1 (k : Gr w w1) => refcost_any a a' n c c' f g l w1 h1 (hr.gr k) (hl.gr k) hb)
        rw [e1, e2]
        rw [h1] at C1
        rw [h2] at C2
        have z1 : ((n : Int) == 0) = false := by simp; omega
        clear e1 e2 h1 h2 hr hl hz hb h0
        generalize mnR (csP l f) n = v at *
        go_enter Tryd.func14, Tryd.ntmps14
        go_wp2_with (first
          | (go_at_call 20; (with_reducible refine (C1.out _ (Gr.refl _)).mono ?_); rintro e w1 ⟨rfl, g1⟩; have G1 := Lib.hid g1; clear g1)
          | (go_at_call 23; (with_reducible refine (C2.out _ G1.out).mono ?_); rintro e w2 ⟨rfl, g2⟩; have G2 := Lib.hid (G1.out.trans g2); clear g2)
          | (go_at_call 36; (with_reducible refine (C3.out _ G2.out).mono ?_); rintro e w3 ⟨rfl, g3⟩; have G3 := Lib.hid (G2.out.trans g3); clear g3))
        exact bodyPost_ret (v := .tuple #[.int .i64 v, .int .i64 0]) (by simp [results, Tryd.results14, go_sem]) rfl ⟨rfl, G3.out⟩

/-- Long: too many products, or tokens. -/
def lgS (f : Nat → ByteArray) (n : Nat) : Bool := ((List.range n).any fun i => decide (100 < (f i).size)) || decide (100 < n)
theorem lgS_of {f : Nat → ByteArray} {n i : Nat} (hi : i < n) (h : 100 < (f i).size) : lgS f n = true := by
  unfold lgS
  rw [Bool.or_eq_true, List.any_eq_true]
  exact .inl ⟨i, by simpa using hi, by simpa using h⟩
theorem lgS_end {f : Nat → ByteArray} {n : Nat} (h : ∀ i, i < n → (f i).size ≤ 100) : lgS f n = decide (100 < n) := by
  unfold lgS
  have : ((List.range n).any fun i => decide (100 < (f i).size)) = false := by
    rw [List.any_eq_false]
    intro i hi
    have := h i (by simpa using hi)
    simp; omega
  rw [this, Bool.false_or]
theorem Long_any (a : Option Addr) (n c : Nat) (f : Nat → ByteArray) (g : Nat → Int) (w : World) (hn : n ≤ 9223372036854775807) (hr : RdS w a n f g) :
    Calls Tryd.prog 9 #[.slice a n c] w (RetB (lgS f n) w) := by
  have HR := Lib.hid hr
  clear hr
  go_enter Tryd.func9, Tryd.ntmps9
  go_wp2
  go_loopw [7] (fun si wr => ∃ k : Nat, k ≤ n ∧ si = .int .i64 k ∧ Hid (∀ i, i < k → (f i).size ≤ 100) ∧ Hid (Gr w wr)) (fun si _ => n - (intOf si).toNat)
  case atStart => exact ⟨0, Nat.zero_le _, rfl, Lib.hid (fun i hi => by omega), Gr.refl w⟩
  case round =>
    obtain ⟨k, hk, rfl, hK, hG⟩ := hrel
    by_cases hlt : k < n
    · have i1 : (k : Int) < (n : Int) := by omega
      obtain ⟨b, o, rfl, hc⟩ := (HR.out.gr hG.out).at hlt
      obtain ⟨k0, k1⟩ := hc k hlt
      have GB := Lib.hid (hG.out.alloc (.cells #[.string (f k), .int .i64 (g k)] 34))
      obtain ⟨z0, z1⟩ := box2 wr (f k) (g k) 34
      have KS := Lib.hid (show (f k).size ≤ 100 → ∀ i, i < k + 1 → (f i).size ≤ 100 from fun h i hi => by
        by_cases e : i = k
        · subst e; exact h
        · exact hK.out i (by omega))
      have KF := Lib.hid (show 100 < (f k).size → lgS f n = true from fun h => lgS_of hlt h)
      clear hc hK
      generalize f k = s at *
      generalize g k = m at *
      by_cases h1 : 100 < s.size
      · have F := Lib.hid (KF.out h1)
        have h2 : (100 : Int) < (s.size : Int) := by omega
        clear h1
        go_wp2_with fail
        go_ret
        rw [F.out]
        exact ⟨rfl, GB.out⟩
      · have F := Lib.hid (KS.out (by omega))
        have h2 : ¬ (100 : Int) < (s.size : Int) := by omega
        clear h1
        go_wp2_with fail
        go_roundw
        case rel => exact ⟨k + 1, hlt, by go_num, F, GB⟩
        case measure => simp [intOf]; omega
    · obtain rfl : k = n := by omega
      have i1 : ¬ (k : Int) < (k : Int) := by omega
      have E := Lib.hid (show lgS f k = decide ((100 : Int) < (k : Int)) by rw [lgS_end hK.out]; congr 1; apply propext; omega)
      go_wp2_with fail
      go_ret
      rw [E.out]
      exact ⟨rfl, hG.out⟩

/-- Example 2 of the chapter. -/
def awF (i : Nat) : ByteArray := ([⟨#[97]⟩, ⟨#[97, 98]⟩, ⟨#[98, 99]⟩] : List ByteArray).getD i ByteArray.empty
def awG (i : Nat) : Int := ([2, 1, 1] : List Int).getD i 0
theorem Awake_any (w : World) : Calls Tryd.prog 10 #[] w (RetB true w) := by
  have E1 : VlN awF awG 3 (fun _ => 1) 8 = 4 := by decide +kernel
  have E2 : VlE awF awG 3 (fun _ => 1) 8 = 0 := by decide +kernel
  obtain ⟨W1, hW1⟩ : ∃ W1, (w.alloc (.cells #[.string ⟨#[97]⟩, .int .i64 2, .string ⟨#[97, 98]⟩, .int .i64 1, .string ⟨#[98, 99]⟩, .int .i64 1] 34)).alloc (.cells #[.int .i64 1, .int .i64 1, .int .i64 1, .int .i64 1, .int .i64 1, .int .i64 1, .int .i64 1, .int .i64 1] 3) = W1 := ⟨_, rfl⟩
  have G1 := Lib.hid (show Gr w W1 by rw [← hW1]; exact ((Gr.refl w).alloc _).alloc _)
  have C := Lib.hid (Value_any (some ⟨w.heap.size, 0, none⟩) (some ⟨w.heap.size + 1, 0, none⟩) 3 3 8 8 awF awG (fun _ => 1) W1 (by omega) (fun i hi => by
      match i, hi with
      | 0, _ => decide
      | 1, _ => decide
      | 2, _ => decide) (by omega)
    (.inr ⟨w.heap.size, 0, rfl, fun i hi => by
      rw [← hW1]
      match i, hi with
      | 0, _ => exact ⟨(((Gr.refl _).alloc _).fresh' rfl rfl).1, (((Gr.refl _).alloc _).fresh' rfl rfl).1⟩
      | 1, _ => exact ⟨(((Gr.refl _).alloc _).fresh' rfl rfl).1, (((Gr.refl _).alloc _).fresh' rfl rfl).1⟩
      | 2, _ => exact ⟨(((Gr.refl _).alloc _).fresh' rfl rfl).1, (((Gr.refl _).alloc _).fresh' rfl rfl).1⟩⟩)
    (.inr ⟨w.heap.size + 1, 0, rfl, fun i hi => by
      rw [← hW1]
      have hs : (w.alloc (.cells #[.string ⟨#[97]⟩, .int .i64 2, .string ⟨#[97, 98]⟩, .int .i64 1, .string ⟨#[98, 99]⟩, .int .i64 1] 34)).heap.size = w.heap.size + 1 := by simp
      match i, hi with
      | 0, _ => exact ((Gr.refl _).fresh' hs rfl).1
      | 1, _ => exact ((Gr.refl _).fresh' hs rfl).1
      | 2, _ => exact ((Gr.refl _).fresh' hs rfl).1
      | 3, _ => exact ((Gr.refl _).fresh' hs rfl).1
      | 4, _ => exact ((Gr.refl _).fresh' hs rfl).1
      | 5, _ => exact ((Gr.refl _).fresh' hs rfl).1
      | 6, _ => exact ((Gr.refl _).fresh' hs rfl).1
      | 7, _ => exact ((Gr.refl _).fresh' hs rfl).1⟩))
  rw [E1, E2] at C
  clear E1 E2
  go_enter Tryd.func10, Tryd.ntmps10
  go_wp2_with (go_at_call 11; (with_reducible refine C.out.mono ?_); rintro e w1 ⟨rfl, g1⟩)
  go_ret
  exact ⟨rfl, G1.out.trans g1⟩

end Go.Proofs.YtehdemcfeoiecaaDoor
