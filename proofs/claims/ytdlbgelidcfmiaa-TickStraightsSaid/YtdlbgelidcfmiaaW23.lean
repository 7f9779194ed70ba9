/- Contracts of chapter 1: the least and the greatest ratio of a list. -/
import Derived.Test.YtdlbgelidcfmiaaW22
import Derived.Deep.RegionHeld3
namespace Go.Proofs.Ytdlbgelidcfmiaa
open Go.RowKit Go.Firn

/-- The index of the first least, and of the first greatest, of the ratios up to k. -/
def mnI (f g : Nat → Int) : Nat → Nat
  | 0 => 0
  | k + 1 => if f (k + 1) * g (mnI f g k) < f (mnI f g k) * g (k + 1) then k + 1 else mnI f g k
def mxI (f g : Nat → Int) : Nat → Nat
  | 0 => 0
  | k + 1 => if f (mxI f g k) * g (k + 1) < f (k + 1) * g (mxI f g k) then k + 1 else mxI f g k
theorem mnI_le (f g : Nat → Int) : ∀ k, mnI f g k ≤ k
  | 0 => Nat.le_refl _
  | k + 1 => by unfold mnI; split <;> have := mnI_le f g k <;> omega
theorem mxI_le (f g : Nat → Int) : ∀ k, mxI f g k ≤ k
  | 0 => Nat.le_refl _
  | k + 1 => by unfold mxI; split <;> have := mxI_le f g k <;> omega
theorem mnI_yes {f g : Nat → Int} {k : Nat} (h : 1 ≤ k) (e : f k * g (mnI f g (k - 1)) < f (mnI f g (k - 1)) * g k) : mnI f g k = k := by
  obtain ⟨j, rfl⟩ : ∃ j, k = j + 1 := ⟨k - 1, by omega⟩
  exact if_pos e
theorem mnI_no {f g : Nat → Int} {k : Nat} (h : 1 ≤ k) (e : ¬ f k * g (mnI f g (k - 1)) < f (mnI f g (k - 1)) * g k) : mnI f g k = mnI f g (k - 1) := by
  obtain ⟨j, rfl⟩ : ∃ j, k = j + 1 := ⟨k - 1, by omega⟩
  exact if_neg e
theorem mxI_yes {f g : Nat → Int} {k : Nat} (h : 1 ≤ k) (e : f (mxI f g (k - 1)) * g k < f k * g (mxI f g (k - 1))) : mxI f g k = k := by
  obtain ⟨j, rfl⟩ : ∃ j, k = j + 1 := ⟨k - 1, by omega⟩
  exact if_pos e
theorem mxI_no {f g : Nat → Int} {k : Nat} (h : 1 ≤ k) (e : ¬ f (mxI f g (k - 1)) * g k < f k * g (mxI f g (k - 1))) : mxI f g k = mxI f g (k - 1) := by
  obtain ⟨j, rfl⟩ : ∃ j, k = j + 1 := ⟨k - 1, by omega⟩
  exact if_neg e

theorem cf77 (args : Array Value) (wz : World) : (callFunc 77 args).run Try.prog wz = .ok (.enter 77 args) wz := by kernel_rfl

set_option maxRecDepth 100000 in
set_option maxHeartbeats 1000000 in
theorem MinFunc_any (a : Option Addr) (n c : Nat) (f g : Nat → Int) (w : World) (h1 : 1 ≤ n) (hn : n ≤ 1000000) (hr : RdM w a n f g)
    (hf : Hid (∀ i, i < n → (0 ≤ f i ∧ f i ≤ 9223372036854775807) ∧ (0 ≤ g i ∧ g i ≤ 9223372036854775807))) :
    Calls Try.prog 76 #[.slice a n c, .func (.func 77) #[] #[]] w (RetR (f (mnI f g (n - 1))) (g (mnI f g (n - 1))) w) := by
  obtain ⟨b, o, rfl, hc⟩ := hr.at (k := 0) (by omega)
  have Hc := Lib.hid hc
  clear hc hr
  have i0 : (0 : Int) < n := by omega
  have i00 : 0 < n := by omega
  have d0 : decide ((n : Int) < 1) = false := by simp; omega
  have g0 : Gr w (w.alloc (.cells #[.int .i64 0, .int .i64 0] 37)) := (Gr.refl w).alloc _
  have c1 := g0.cell (Hc.out 0 (by omega)).1
  have c2 := g0.cell (Hc.out 0 (by omega)).2
  simp only [Nat.zero_mul, Nat.add_zero] at c1 c2
  have B4 : Box2 (w.alloc (.cells #[.int .i64 0, .int .i64 0] 37)) w.heap.size 0 0 := Box2.new rfl
  have B5 : Box2 ((w.alloc (.cells #[.int .i64 0, .int .i64 0] 37)).alloc (.cells #[.int .i64 (f 0), .int .i64 (g 0)] 37)) (w.heap.size + 1) (f 0) (g 0) := Box2.new (by simp)
  have B4' := Lib.hid (B4.gr ((Gr.refl _).alloc (.cells #[.int .i64 (f 0), .int .i64 (g 0)] 37)))
  have B5' := Lib.hid B5
  clear B4 B5
  go_enter Try.func76, Try.ntmps76
  go_wp2_with fail
  go_loopw [6] (fun i wr => ∃ k : Nat, 1 ≤ k ∧ k ≤ n ∧ i = .int .i64 k ∧ Hid (Box2 wr (w.heap.size + 1) (f (mnI f g (k - 1))) (g (mnI f g (k - 1)))) ∧ Hid (Box2 wr w.heap.size 0 0) ∧ Gr w wr) (fun i _ => n - (intOf i).toNat)
  case atStart => exact ⟨1, by omega, by omega, rfl, B5', B4', g0.alloc _⟩
  case round =>
    obtain ⟨k, hk1, hk, rfl, B5, B4, hg⟩ := hrel
    have hml := mnI_le f g (k - 1)
    by_cases hlt : k < n
    · have HF := hf.out k hlt
      have HM := hf.out (mnI f g (k - 1)) (by omega)
      have CK := Lib.hid (fun wz => compare_any (f k) (g k) (f (mnI f g (k - 1))) (g (mnI f g (k - 1))) wz HF.1 HF.2 HM.1 HM.2)
      clear HF HM
      have c1 := hg.cell (Hc.out k hlt).1
      have c2 := hg.cell (Hc.out k hlt).2
      have i1 : (k : Int) < n := by omega
      obtain ⟨s0, s1, f0, f1⟩ := id B5.out
      by_cases hl : f k * g (mnI f g (k - 1)) < f (mnI f g (k - 1)) * g k
      · have CV : Hid (∀ wz, Calls Try.prog 77 #[.agg #[.int .i64 (f k), .int .i64 (g k)], .agg #[.int .i64 (f (mnI f g (k - 1))), .int .i64 (g (mnI f g (k - 1)))]] wz fun e w' => e = .returned (.int .i64 (-1)) ∧ Gr wz w') := Lib.hid fun wz => by
          have h := CK.out wz
          rw [show cmpI (f k * g (mnI f g (k - 1))) (f (mnI f g (k - 1)) * g k) = -1 by unfold cmpI; rw [if_pos hl]] at h
          exact h
        have E := Lib.hid (mnI_yes hk1 hl)
        clear hl CK
        generalize f (mnI f g (k - 1)) = p at *
        generalize g (mnI f g (k - 1)) = q at *
        go_wp2_with fail
        go_region_held3 (fun w' => w'.cell? ⟨b, o + k * 2, none⟩ = some (.int .i64 (f k)) ∧ w'.cell? ⟨b, o + k * 2 + 1, none⟩ = some (.int .i64 (g k)) ∧ w'.cell? ⟨w.heap.size + 1, 0, none⟩ = some (.int .i64 p) ∧ w'.cell? ⟨w.heap.size + 1, 1, none⟩ = some (.int .i64 q))
          (first | go_keep | exact ⟨g1.cell c1, g1.cell c2, g1.cell s0, g1.cell s1⟩)
          (first | (go_at_call 77; refine (CV.out _).mono ?_; rintro e w1 ⟨rfl, g1⟩))
        have C1 := g1.cell c1
        have C2 := g1.cell c2
        have B5b := Lib.hid (B5.out.drew.gr g1)
        have B4b := Lib.hid (B4.out.drew.gr g1)
        have G1 : Gr w w1 := (hg.drew).trans g1
        clear c1 c2 s0 s1 f0 f1 B5 B4 g1
        obtain ⟨s0, s1, f0, f1⟩ := id B5b.out
        have hz : w.heap.size + 1 < w1.heap.size := World.block_lt_of_cell? w1 _ s0
        go_wp2_with fail
        go_roundw
        case rel =>
          refine ⟨k + 1, by omega, by omega, by go_num, ?_, ?_, ?_⟩
          · rw [Nat.add_sub_cancel, E.out]; exact B5b.out.put
          · exact B4b.out.far (by omega) _ _
          · exact (G1.setAt (by omega) _).setAt (by omega) _
        case measure => simp [intOf]; omega
      · have CV : Hid (∀ wz, Calls Try.prog 77 #[.agg #[.int .i64 (f k), .int .i64 (g k)], .agg #[.int .i64 (f (mnI f g (k - 1))), .int .i64 (g (mnI f g (k - 1)))]] wz fun e w' => (∃ r : Int, decide (r < 0) = false ∧ e = .returned (.int .i64 r)) ∧ Gr wz w') := Lib.hid fun wz => by
          refine (CK.out wz).mono ?_
          rintro e w' ⟨rfl, g⟩
          refine ⟨⟨_, ?_, rfl⟩, g⟩
          rw [decide_eq_false_iff_not]
          unfold cmpI
          repeat' split
          all_goals omega
        have E := Lib.hid (show f (mnI f g k) = f (mnI f g (k - 1)) ∧ g (mnI f g k) = g (mnI f g (k - 1)) by rw [mnI_no hk1 hl]; exact ⟨rfl, rfl⟩)
        clear hl CK
        generalize f (mnI f g (k - 1)) = p at *
        generalize g (mnI f g (k - 1)) = q at *
        go_wp2_with fail
        go_region_held3 (fun w' => w'.cell? ⟨b, o + k * 2, none⟩ = some (.int .i64 (f k)) ∧ w'.cell? ⟨b, o + k * 2 + 1, none⟩ = some (.int .i64 (g k)) ∧ w'.cell? ⟨w.heap.size + 1, 0, none⟩ = some (.int .i64 p) ∧ w'.cell? ⟨w.heap.size + 1, 1, none⟩ = some (.int .i64 q))
          (first | go_keep | exact ⟨g1.cell c1, g1.cell c2, g1.cell s0, g1.cell s1⟩)
          (first | (go_at_call 77; refine (CV.out _).mono ?_; rintro e w1 ⟨⟨r, hr0, rfl⟩, g1⟩))
        have B5b := Lib.hid (B5.out.drew.gr g1)
        have B4b := Lib.hid (B4.out.drew.gr g1)
        have G1 : Gr w w1 := (hg.drew).trans g1
        clear c1 c2 s0 s1 f0 f1 B5 B4 g1
        go_wp2_with fail
        go_roundw
        case rel =>
          refine ⟨k + 1, by omega, by omega, by go_num, ?_, B4b, G1⟩
          rw [Nat.add_sub_cancel, E.out.1, E.out.2]; exact B5b
        case measure => simp [intOf]; omega
    · have e : k = n := by omega
      subst e
      obtain ⟨s0, s1, f0, f1⟩ := id B5.out
      obtain ⟨s2, s3, f2, f3⟩ := id B4.out
      have hz : w.heap.size + 1 < wr.heap.size := World.block_lt_of_cell? wr _ s0
      go_wp2_with fail
      refine bodyPost_ret (v := .agg #[.int .i64 (f (mnI f g (k - 1))), .int .i64 (g (mnI f g (k - 1)))]) (by simp [results, Try.results76, go_sem, *]) rfl ⟨rfl, ?_⟩
      exact (hg.setAt (by omega) _).setAt (by omega) _

set_option maxRecDepth 100000 in
set_option maxHeartbeats 1000000 in
theorem MaxFunc_any (a : Option Addr) (n c : Nat) (f g : Nat → Int) (w : World) (h1 : 1 ≤ n) (hn : n ≤ 1000000) (hr : RdM w a n f g)
    (hf : Hid (∀ i, i < n → (0 ≤ f i ∧ f i ≤ 9223372036854775807) ∧ (0 ≤ g i ∧ g i ≤ 9223372036854775807))) :
    Calls Try.prog 78 #[.slice a n c, .func (.func 77) #[] #[]] w (RetR (f (mxI f g (n - 1))) (g (mxI f g (n - 1))) w) := by
  obtain ⟨b, o, rfl, hc⟩ := hr.at (k := 0) (by omega)
  have Hc := Lib.hid hc
  clear hc hr
  have i0 : (0 : Int) < n := by omega
  have i00 : 0 < n := by omega
  have d0 : decide ((n : Int) < 1) = false := by simp; omega
  have g0 : Gr w (w.alloc (.cells #[.int .i64 0, .int .i64 0] 37)) := (Gr.refl w).alloc _
  have c1 := g0.cell (Hc.out 0 (by omega)).1
  have c2 := g0.cell (Hc.out 0 (by omega)).2
  simp only [Nat.zero_mul, Nat.add_zero] at c1 c2
  have B4 : Box2 (w.alloc (.cells #[.int .i64 0, .int .i64 0] 37)) w.heap.size 0 0 := Box2.new rfl
  have B5 : Box2 ((w.alloc (.cells #[.int .i64 0, .int .i64 0] 37)).alloc (.cells #[.int .i64 (f 0), .int .i64 (g 0)] 37)) (w.heap.size + 1) (f 0) (g 0) := Box2.new (by simp)
  have B4' := Lib.hid (B4.gr ((Gr.refl _).alloc (.cells #[.int .i64 (f 0), .int .i64 (g 0)] 37)))
  have B5' := Lib.hid B5
  clear B4 B5
  go_enter Try.func78, Try.ntmps78
  go_wp2_with fail
  go_loopw [6] (fun i wr => ∃ k : Nat, 1 ≤ k ∧ k ≤ n ∧ i = .int .i64 k ∧ Hid (Box2 wr (w.heap.size + 1) (f (mxI f g (k - 1))) (g (mxI f g (k - 1)))) ∧ Hid (Box2 wr w.heap.size 0 0) ∧ Gr w wr) (fun i _ => n - (intOf i).toNat)
  case atStart => exact ⟨1, by omega, by omega, rfl, B5', B4', g0.alloc _⟩
  case round =>
    obtain ⟨k, hk1, hk, rfl, B5, B4, hg⟩ := hrel
    have hml := mxI_le f g (k - 1)
    by_cases hlt : k < n
    · have HF := hf.out k hlt
      have HM := hf.out (mxI f g (k - 1)) (by omega)
      have CK := Lib.hid (fun wz => compare_any (f k) (g k) (f (mxI f g (k - 1))) (g (mxI f g (k - 1))) wz HF.1 HF.2 HM.1 HM.2)
      clear HF HM
      have c1 := hg.cell (Hc.out k hlt).1
      have c2 := hg.cell (Hc.out k hlt).2
      have i1 : (k : Int) < n := by omega
      obtain ⟨s0, s1, f0, f1⟩ := id B5.out
      by_cases hl : f (mxI f g (k - 1)) * g k < f k * g (mxI f g (k - 1))
      · have CV : Hid (∀ wz, Calls Try.prog 77 #[.agg #[.int .i64 (f k), .int .i64 (g k)], .agg #[.int .i64 (f (mxI f g (k - 1))), .int .i64 (g (mxI f g (k - 1)))]] wz fun e w' => e = .returned (.int .i64 (1)) ∧ Gr wz w') := Lib.hid fun wz => by
          have h := CK.out wz
          rw [show cmpI (f k * g (mxI f g (k - 1))) (f (mxI f g (k - 1)) * g k) = 1 by unfold cmpI; rw [if_neg (by omega), if_pos hl]] at h
          exact h
        have E := Lib.hid (mxI_yes hk1 hl)
        clear hl CK
        generalize f (mxI f g (k - 1)) = p at *
        generalize g (mxI f g (k - 1)) = q at *
        go_wp2_with fail
        go_region_held3 (fun w' => w'.cell? ⟨b, o + k * 2, none⟩ = some (.int .i64 (f k)) ∧ w'.cell? ⟨b, o + k * 2 + 1, none⟩ = some (.int .i64 (g k)) ∧ w'.cell? ⟨w.heap.size + 1, 0, none⟩ = some (.int .i64 p) ∧ w'.cell? ⟨w.heap.size + 1, 1, none⟩ = some (.int .i64 q))
          (first | go_keep | exact ⟨g1.cell c1, g1.cell c2, g1.cell s0, g1.cell s1⟩)
          (first | (go_at_call 77; refine (CV.out _).mono ?_; rintro e w1 ⟨rfl, g1⟩))
        have C1 := g1.cell c1
        have C2 := g1.cell c2
        have B5b := Lib.hid (B5.out.drew.gr g1)
        have B4b := Lib.hid (B4.out.drew.gr g1)
        have G1 : Gr w w1 := (hg.drew).trans g1
        clear c1 c2 s0 s1 f0 f1 B5 B4 g1
        obtain ⟨s0, s1, f0, f1⟩ := id B5b.out
        have hz : w.heap.size + 1 < w1.heap.size := World.block_lt_of_cell? w1 _ s0
        go_wp2_with fail
        go_roundw
        case rel =>
          refine ⟨k + 1, by omega, by omega, by go_num, ?_, ?_, ?_⟩
          · rw [Nat.add_sub_cancel, E.out]; exact B5b.out.put
          · exact B4b.out.far (by omega) _ _
          · exact (G1.setAt (by omega) _).setAt (by omega) _
        case measure => simp [intOf]; omega
      · have CV : Hid (∀ wz, Calls Try.prog 77 #[.agg #[.int .i64 (f k), .int .i64 (g k)], .agg #[.int .i64 (f (mxI f g (k - 1))), .int .i64 (g (mxI f g (k - 1)))]] wz fun e w' => (∃ r : Int, decide (r > 0) = false ∧ e = .returned (.int .i64 r)) ∧ Gr wz w') := Lib.hid fun wz => by
          refine (CK.out wz).mono ?_
          rintro e w' ⟨rfl, g⟩
          refine ⟨⟨_, ?_, rfl⟩, g⟩
          rw [decide_eq_false_iff_not]
          unfold cmpI
          repeat' split
          all_goals omega
        have E := Lib.hid (show f (mxI f g k) = f (mxI f g (k - 1)) ∧ g (mxI f g k) = g (mxI f g (k - 1)) by rw [mxI_no hk1 hl]; exact ⟨rfl, rfl⟩)
        clear hl CK
        generalize f (mxI f g (k - 1)) = p at *
        generalize g (mxI f g (k - 1)) = q at *
        go_wp2_with fail
        go_region_held3 (fun w' => w'.cell? ⟨b, o + k * 2, none⟩ = some (.int .i64 (f k)) ∧ w'.cell? ⟨b, o + k * 2 + 1, none⟩ = some (.int .i64 (g k)) ∧ w'.cell? ⟨w.heap.size + 1, 0, none⟩ = some (.int .i64 p) ∧ w'.cell? ⟨w.heap.size + 1, 1, none⟩ = some (.int .i64 q))
          (first | go_keep | exact ⟨g1.cell c1, g1.cell c2, g1.cell s0, g1.cell s1⟩)
          (first | (go_at_call 77; refine (CV.out _).mono ?_; rintro e w1 ⟨⟨r, hr0, rfl⟩, g1⟩))
        have B5b := Lib.hid (B5.out.drew.gr g1)
        have B4b := Lib.hid (B4.out.drew.gr g1)
        have G1 : Gr w w1 := (hg.drew).trans g1
        clear c1 c2 s0 s1 f0 f1 B5 B4 g1
        go_wp2_with fail
        go_roundw
        case rel =>
          refine ⟨k + 1, by omega, by omega, by go_num, ?_, B4b, G1⟩
          rw [Nat.add_sub_cancel, E.out.1, E.out.2]; exact B5b
        case measure => simp [intOf]; omega
    · have e : k = n := by omega
      subst e
      obtain ⟨s0, s1, f0, f1⟩ := id B5.out
      obtain ⟨s2, s3, f2, f3⟩ := id B4.out
      have hz : w.heap.size + 1 < wr.heap.size := World.block_lt_of_cell? wr _ s0
      go_wp2_with fail
      refine bodyPost_ret (v := .agg #[.int .i64 (f (mxI f g (k - 1))), .int .i64 (g (mxI f g (k - 1)))]) (by simp [results, Try.results78, go_sem, *]) rfl ⟨rfl, ?_⟩
      exact (hg.setAt (by omega) _).setAt (by omega) _

end Go.Proofs.Ytdlbgelidcfmiaa
