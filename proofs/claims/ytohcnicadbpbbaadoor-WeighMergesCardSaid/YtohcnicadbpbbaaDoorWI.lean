/- Contracts of chapter 7: the cut of k of the reference. -/
import Derived.Test.YtohcnicadbpbbaaDoorWF
namespace Go.Proofs.YtohcnicadbpbbaaDoor
open Go.RowKit Go.Firn

def nf (L : List Nat) (i : Nat) : Int := (L.getD i 0 : Nat)
def onL (p : Nat → Bool) (n : Nat) : List Nat := (List.range n).filter p
theorem onL_succ (p : Nat → Bool) (n : Nat) : onL p (n + 1) = onL p n ++ (if p n then [n] else []) := by
  unfold onL
  rw [List.range_succ, List.filter_append]
  by_cases h : p n <;> simp [h]
theorem onL_len (p : Nat → Bool) (n : Nat) : (onL p n).length ≤ n := by
  have := List.length_filter_le p (List.range n)
  simpa [onL] using this
theorem onL_pre {p : Nat → Bool} {k : Nat} : ∀ {n : Nat}, k ≤ n → ∃ r, onL p n = onL p k ++ r := by
  intro n
  induction n with
  | zero => intro h; rw [Nat.le_zero.1 h]; exact ⟨[], by simp⟩
  | succ n ih =>
    intro h
    by_cases h1 : k ≤ n
    · obtain ⟨r, hr⟩ := ih h1
      exact ⟨r ++ (if p n then [n] else []), by rw [onL_succ, hr, List.append_assoc]⟩
    · rw [show k = n + 1 by omega]; exact ⟨[], by simp⟩
theorem onL_at {p : Nat → Bool} {n k : Nat} (hk : k < n) (hp : p k = true) : nf (onL p n) (onL p k).length = (k : Int) := by
  obtain ⟨r, e⟩ := onL_pre (p := p) (show k + 1 ≤ n by omega)
  rw [e, onL_succ, if_pos hp]
  unfold nf
  simp
theorem onL_bd {p : Nat → Bool} {n i : Nat} (h : i < (onL p n).length) : 0 ≤ nf (onL p n) i ∧ nf (onL p n) i < n := by
  have m : (onL p n).getD i 0 ∈ onL p n := by
    simp only [List.getD_eq_getElem?_getD, List.getElem?_eq_getElem h, Option.getD_some]
    exact List.getElem_mem h
  have := List.mem_range.1 (List.mem_filter.1 m).1
  unfold nf
  omega

set_option maxHeartbeats 2000000 in
theorem bit_fin : ∀ k : Nat, k < 10 → ∀ s : Nat, s < 1024 → bits BinOp.and IntKind.i64 ((s : Int) / (2 : Int) ^ k) 1 = if s.testBit k then 1 else 0 := by decide +kernel
theorem or_fin : ∀ k : Nat, k < 10 → ∀ s : Nat, s < 1024 → bits BinOp.or IntKind.i64 (s : Int) ((2 : Int) ^ k) = ((s ||| (1 <<< k) : Nat) : Int) ∧ s ||| (1 <<< k) < 1024 := by decide +kernel

set_option maxRecDepth 100000 in
theorem of_any (a a2 : Option Addr) (n c m d : Nat) (s : Nat) (w : World) (hn : n ≤ 10) (hs : s < 1024) :
    Calls Tryd.prog 67 #[.agg #[.slice a n c, .slice a2 m d], .int .i64 s] w (RetI1 (onL s.testBit n).length (nf (onL s.testBit n)) w) := by
  obtain ⟨W0, hW0⟩ : ∃ W0, w.alloc (.cells #[.slice a n c, .slice a2 m d] 24) = W0 := ⟨_, rfl⟩
  have G0 := Lib.hid (show Gr w W0 by rw [← hW0]; exact (Gr.refl w).alloc _)
  have BX := Lib.hid (show BoxO W0 w.heap.size (.slice a n c) (.slice a2 m d) by rw [← hW0]; exact BoxO.new rfl)
  obtain ⟨F, hF⟩ : ∃ F, nf (onL s.testBit n) = F := ⟨_, rfl⟩
  have HF := Lib.hid hF
  rw [hF]
  obtain ⟨p0, p1⟩ := BX.out
  clear hF
  go_enter Tryd.func67, Tryd.ntmps67
  go_wp2_with fail
  go_loopw [5, 6, 10] (fun so _ sk wr => ∃ k : Nat, k ≤ n ∧ sk = .int .i64 k ∧ OwnI W0 3 wr so (onL s.testBit k).length F) (fun _ _ sk _ => n - (intOf sk).toNat)
  case atStart => exact ⟨0, Nat.zero_le _, rfl, OwnI.nil' (by first | exact Gr.refl _ | exact (Gr.refl _).drew) _ _⟩
  case round =>
    obtain ⟨k, hk, rfl, hown⟩ := hrel
    by_cases hlt : k < n
    · have i1 : (k : Int) < n := by omega
      have LK := onL_len s.testBit k
      have S := Lib.hid (onL_succ s.testBit k)
      have AT := Lib.hid (fun h => onL_at (p := s.testBit) hlt h)
      generalize onL s.testBit k = L at *
      have k9 : L.length < 1000000000 := by omega
      have BF := bit_fin k (by omega) s hs
      by_cases hb : s.testBit k = true
      · rw [if_pos hb] at BF
        have S' := Lib.hid (show (onL s.testBit (k + 1)).length = L.length + 1 by rw [S.out, if_pos hb]; simp)
        have E := Lib.hid (show F L.length = (k : Int) by rw [← HF.out]; exact AT.out hb)
        clear S AT hb
        go_wp2_with (at_builtin; go_must (refine wpList_app_int rfl _ _ 22 3 rfl Tryd.underlying22 Tryd.info3 _ L.length _ rfl (hown.alloc _) _ _ rfl (cell_new1 _ _ _) E.out k9 ?_); intro v1 w1 hown1 _)
        go_roundw
        case rel => exact ⟨k + 1, hlt, by go_num, by rw [S'.out]; exact hown1⟩
        case measure => simp [intOf]; omega
      · rw [if_neg hb] at BF
        have S' := Lib.hid (show (onL s.testBit (k + 1)).length = L.length by rw [S.out, if_neg hb]; simp)
        clear S AT hb
        go_wp2_with fail
        go_roundw
        case rel => exact ⟨k + 1, hlt, by go_num, by rw [S'.out]; exact hown⟩
        case measure => simp [intOf]; omega
    · obtain rfl : k = n := by omega
      obtain ⟨a1, c1, rfl, h1, h2, h3⟩ := hown.rd
      go_wp2_with fail
      go_ret
      exact ⟨a1, c1, rfl, h1, h2, h3, G0.out.trans hown.2⟩

end Go.Proofs.YtohcnicadbpbbaaDoor
