/- Contracts of chapter 2: slices.Repeat of one number. -/
import Derived.Test.YtjokheeegcilhaaDoorW29
import Derived.Laws.CopyOwn
namespace Go.Proofs.YtjokheeegcilhaaDoor
open Go.RowKit Go.Firn

theorem Mul64_v (n : Nat) (hn : n ≤ 14) (w : World) :
    Calls Tryd.prog 130 #[.int .u64 1, .int .u64 n] w fun e w' => e = .returned (.tuple #[.int .u64 0, .int .u64 n]) ∧ w = w' := by
  obtain rfl | rfl | rfl | rfl | rfl | rfl | rfl | rfl | rfl | rfl | rfl | rfl | rfl | rfl | rfl : n = 0 ∨ n = 1 ∨ n = 2 ∨ n = 3 ∨ n = 4 ∨ n = 5 ∨ n = 6 ∨ n = 7 ∨ n = 8 ∨ n = 9 ∨ n = 10 ∨ n = 11 ∨ n = 12 ∨ n = 13 ∨ n = 14 := by omega
  all_goals
    go_enter Tryd.func130, Tryd.ntmps130
    go_wp2
    go_ret2
    exact ⟨by first | rfl | decide, rfl⟩

theorem Mul_v (n : Nat) (hn : n ≤ 14) (w : World) :
    Calls Tryd.prog 114 #[.int .u64 1, .int .u64 n] w fun e w' => e = .returned (.tuple #[.int .u64 0, .int .u64 n]) ∧ w = w' := by
  go_enter Tryd.func114, Tryd.ntmps114
  go_wp2_with (go_at_call 130; refine (Mul64_v n hn _).mono ?_; rintro e w1 ⟨rfl, rfl⟩)
  go_ret2
  exact ⟨rfl, rfl⟩

/-- m times -1, then zeros. -/
def reps (n m : Nat) : List Value := List.replicate m (.int .i64 (-1)) ++ List.replicate (n - m) (.int .i64 0)
theorem reps_length {n m : Nat} (h : m ≤ n) : (reps n m).length = n := by unfold reps; simp; omega
theorem reps_splice {n m k : Nat} (h : m + k ≤ n) : splice (reps n m) m (List.replicate k (.int .i64 (-1))) = reps n (m + k) := by
  unfold splice reps
  rw [List.take_append_of_le_length (by simp), List.take_of_length_le (by simp), List.drop_append, List.drop_eq_nil_of_le (by simp)]
  simp only [List.length_replicate, List.nil_append, List.drop_replicate]
  rw [← List.append_assoc, List.replicate_append_replicate]
  congr 2
  omega
theorem reps_cell {w : World} {g n m : Nat} (hg : w.heap[g]? = some (.cells (reps n m).toArray 3 (0, 0))) {i : Nat} (hi : i < m) : w.cell? ⟨g, i, none⟩ = some (.int .i64 (-1)) ∧ w.frozen? ⟨g, i, none⟩ = false := by
  have : (reps n m)[i]? = some (.int .i64 (-1)) := by
    unfold reps; rw [List.getElem?_append_left (by simpa using hi)]; simp [hi]
  constructor
  · simp [World.cell?, hg, this]
  · simp [World.frozen?, hg]

theorem Tryd.size3 : (Tryd.prog.info? 3).map (·.size) = some 1 := by kernel_rfl

set_option maxHeartbeats 1000000 in
set_option maxRecDepth 20000 in
theorem Repeat_any (bx n : Nat) (w : World) (h1 : 1 ≤ n) (hn : n ≤ 14) (hx : w.cell? ⟨bx, 0, none⟩ = some (.int .i64 (-1))) :
    Calls Tryd.prog 103 #[.slice (some ⟨bx, 0, none⟩) 1 1, .int .i64 n] w fun e w' => ∃ g, e = .returned (.slice (some ⟨g, 0, none⟩) n n) ∧ w.heap.size ≤ g ∧ g < w'.heap.size ∧ RowG w' g n (zV fun _ => -1) ∧ Gr w w' := by
  obtain ⟨cs, hcs, hsz, mk0⟩ := made Tryd.underlying23 Tryd.info3 rfl (by omega) n (by omega)
  have c1 : IntKind.u64.wrap (1 : Int) = 1 := by decide
  have c2 : IntKind.u64.wrap (n : Int) = (n : Int) := by rw [IntKind.wrap_u64]; omega
  have c3 : ¬ (9223372036854775807 : Int) < (n : Int) := by omega
  have e0 : cs.toList = reps n 0 := by
    unfold reps
    apply List.ext_getElem?
    intro i
    by_cases hi : i < n
    · rw [Array.getElem?_toList, hcs i hi]; simp [hi]
    · rw [List.getElem?_eq_none (by simp; omega), List.getElem?_eq_none (by simp; omega)]
  have HG0 := Lib.hid (show (w.alloc (.cells cs 3)).heap[w.heap.size]? = some (.cells (reps n 0).toArray 3 (0, 0)) from by
    rw [← e0]
    show (w.heap.push (.cells cs 3 (0, 0)))[w.heap.size]? = _
    simp)
  have HX := Lib.hid (show ∀ j v, ([.int .i64 (-1)] : List Value)[j]? = some v → (w.alloc (.cells cs 3)).cell? ((⟨bx, 0, none⟩ : Addr).add j) = some v from fun j v hv => by
    cases j with
    | zero => simp at hv; subst hv; exact ((Gr.refl w).alloc (.cells cs 3)).cell hx
    | succ j => simp at hv)
  have B0 := Lib.hid ((Gr.refl w).alloc (.cells cs 3))
  have L0 := Lib.hid (show (reps n 0).length = n from reps_length (Nat.zero_le n))
  have S1 := Lib.hid (show splice (reps n 0) 0 [.int .i64 (-1)] = reps n 1 from by have := reps_splice (n := n) (m := 0) (k := 1) (by omega); simpa using this)
  obtain ⟨g, hg⟩ : ∃ g, g = w.heap.size := ⟨_, rfl⟩
  have GG := Lib.hid hg
  clear hcs hsz e0
  go_enter Tryd.func103, Tryd.ntmps103
  go_upto_region 7 with (go_at_call 114; refine (Mul_v n hn _).mono ?_; rintro e w1 ⟨rfl, rfl⟩)
  go_wp2_with ((refine wpList_copy_splice rfl (.tmp 31) (.tmp 32) 23 23 rfl 3 Tryd.underlying23 Tryd.size3 _ _ _ _ _ _ rfl rfl w.heap.size 0 (reps n 0) 3 HG0.out [.int .i64 (-1)] (by show 1 = Nat.min 1 n; exact (Nat.min_eq_left h1).symm) (fun _ => ⟨rfl, _, rfl, HX.out⟩) (by rw [L0.out]; exact h1) (fun v hv => by simp at hv; subst hv; rfl) w.heap.size w B0.out (Nat.le_refl _) ?_); intro w2 HG2 hB2; rw [S1.out] at HG2; have HB2 := Lib.hid hB2; clear hB2)
  rw [← hg] at HG2 ⊢
  clear HG0 HX B0 L0 S1 mk0 hx hg
  go_loopw [8] (fun s wr => ∃ m : Nat, 1 ≤ m ∧ m ≤ n ∧ s = .int .i64 m ∧ Hid (wr.heap[g]? = some (.cells (reps n m).toArray 3 (0, 0))) ∧ Hid (Below w.heap.size w wr)) (fun s _ => n - (intOf s).toNat)
  case atStart => exact ⟨1, by omega, h1, rfl, HG2, HB2⟩
  case round =>
    obtain ⟨m, hm1, hmn, rfl, hG, hB⟩ := hrel
    by_cases hlt : m < n
    · have i1 : (m : Int) < (n : Int) := by omega
      have i2 : (m : Int) ≤ (n : Int) := by omega
      have nm : ¬ n = m := by omega
      have LM := Lib.hid (show (reps n m).length = n from reps_length hmn)
      have SM := Lib.hid (show splice (reps n m) m (List.replicate (min m (n - m)) (.int .i64 (-1))) = reps n (m + min m (n - m)) from reps_splice (by omega))
      have HS := Lib.hid (fun j v (hv : (List.replicate (min m (n - m)) (Value.int .i64 (-1)))[j]? = some v) => show wr.cell? ((⟨g, 0, none⟩ : Addr).add j) = some v from by
        rw [List.getElem?_replicate] at hv
        split at hv
        · cases hv
          rw [add_flat rfl, Nat.zero_add]
          exact (reps_cell hG.out (by omega)).1
        · cases hv)
      go_wp2_with fail
      go_region_law (refine step_copy_splice rfl (.tmp 41) (.tmp 44) 23 23 rfl 3 Tryd.underlying23 Tryd.size3 (some ⟨g, m, none⟩) (some ⟨g, 0, none⟩) (n - m) (n - m) m n (by simp [Act.eval, Act.put]) (by simp [Act.eval, Act.put]) g m (reps n m) 3 hG.out (List.replicate (min m (n - m)) (.int .i64 (-1))) (by rw [List.length_replicate]) (fun _ => ⟨rfl, _, rfl, HS.out⟩) (by rw [LM.out]; simp; omega) (fun v hv => by rw [List.eq_of_mem_replicate hv]; rfl) w.heap.size w hB.out.drew (by have := GG.out; omega) ?_; intro w4 HG4 hB4)
      rw [SM.out] at HG4
      have HB4 := Lib.hid hB4
      have K0 : 0 < min m (n - m) := by omega
      have K1 : m + min m (n - m) ≤ n := by omega
      clear hB4 SM HS LM hB hG
      generalize min m (n - m) = q at HG4 K0 K1 ⊢
      have e2 : IntKind.i64.wrap ((m : Int) + (q : Int)) = ((m + q : Nat) : Int) := by rw [IntWalk.i64_in _ (by omega)]; omega
      simp [Act.put]
      rw [e2]
      go_wp2_with fail
      go_roundw
      case rel => exact ⟨m + q, by omega, K1, by go_num, HG4, HB4⟩
      case measure => simp [intOf]; omega
    · obtain rfl : m = n := by omega
      go_wp2_with fail
      go_ret
      have h3 := GG.out
      have h4 : g < wr.heap.size := World.block_lt_of_cell? wr _ (reps_cell hG.out h1).1
      exact ⟨g, rfl, by omega, h4, fun i hi => reps_cell hG.out hi, hB.out⟩

end Go.Proofs.YtjokheeegcilhaaDoor
