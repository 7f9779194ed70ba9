/- Contracts of chapter 7: slices.Clone, slices.Delete of one, and the weights behind a merge. -/
import Derived.Test.YtohcnicadbpbbaaDoorWE
import Derived.Test.YtohcnicadbpbbaaDoorShelp
import Derived.Sort.OwnSortedInts
namespace Go.Proofs.YtohcnicadbpbbaaDoor
open Go.RowKit Go.Firn Go.Sort

/-- A row of the call's own, in a new block, that may be written. -/
def RetRow (n : Nat) (f : Nat → Int) (w : World) (e : Ending) (w' : World) : Prop :=
  ∃ b c, e = .returned (.slice (some ⟨b, 0, none⟩) n c) ∧ n ≤ c ∧ c ≤ maxLen ∧ RowI w' b n f ∧ Gr w w' ∧ w.heap.size ≤ b
theorem rowI_of_owns {w : World} {base n : Nat} {v : Value} {f : Nat → Int} (h : w.ownsRow base 3 1 v n (ints n f)) (hn : 0 < n) : ∃ b c, v = .slice (some ⟨b, 0, none⟩) n c ∧ n ≤ c ∧ c ≤ maxLen ∧ base ≤ b ∧ RowI w b n f := by
  have h0 := h
  obtain ⟨hl, hv⟩ := h
  rcases hv with ⟨rfl, hz⟩ | ⟨b, cap, cur, rfl, hb, hg, hnc, hcm, hcs, htake⟩
  · omega
  · refine ⟨b, cap, rfl, hnc, hcm, hb, fun p hp => ?_⟩
    have hc := h0.cells (g := b) rfl p (.int .i64 (f p)) (by simp [ints, hp])
    have hadd : (⟨b, 0, none⟩ : Addr).add p = ⟨b, p, none⟩ := by rw [add_flat rfl]; simp
    rw [hadd] at hc
    refine ⟨hc, ?_⟩
    unfold World.frozen?
    rw [hg]
    simp
theorem ints_take (n : Nat) (f : Nat → Int) : (((List.range n).map f).take n).map (Value.int .i64) = ints n f := by
  rw [List.take_of_length_le (by simp)]
  unfold ints
  rw [List.map_map]
  rfl
theorem getD_range (f : Nat → Int) {n j : Nat} (hj : j < n) : ((List.range n).map f).getD j 0 = f j := by
  simp [List.getD_eq_getElem?_getD, hj]

theorem Clone_any (a : Option Addr) (n c : Nat) (f : Nat → Int) (w : World) (hn : 0 < n ∧ n ≤ 1000) (hr : RdI w a n f) : Calls Tryd.prog 53 #[.slice a n c] w (RetRow n f w) := by
  obtain ⟨b, o, rfl, hc⟩ := hr.at hn.1
  have h : Calls Tryd.prog 53 #[.slice (some ⟨b, o, none⟩) n c] w _ := Any.slices_Clone_int Tryd.clone15 b o n c ((List.range n).map f) w (by simp) (by omega) (fun j hj => by
    have hj' : j < n := by simpa using hj
    rw [hc j hj', getD_range f hj'])
  refine h.mono fun e w' ⟨v, e1, e2, _, e4⟩ => ?_
  rw [ints_take] at e2
  obtain ⟨b', c', rfl, l1, l2, l3, l4⟩ := rowI_of_owns e2 hn.1
  exact ⟨b', c', e1, l1, l2, l4, e4, l3⟩

theorem getD_del (F : Nat → Int) {n i p : Nat} (hi : i < n) (hp : p < n - 1) : (((List.range n).map F).take i ++ ((List.range n).map F).drop (i + 1) ++ List.replicate (i + 1 - i) 0)[p]? = some (if p < i then F p else F (p + 1)) := by
  rw [List.append_assoc]
  have l1 : (((List.range n).map F).take i).length = i := by simp; omega
  by_cases h : p < i
  · rw [List.getElem?_append_left (by omega), if_pos h, List.getElem?_take_of_lt h, List.getElem?_map, List.getElem?_range (show p < n by omega)]
    rfl
  · rw [List.getElem?_append_right (by omega), l1, if_neg h, List.getElem?_append_left (by simp; omega), List.getElem?_drop, show i + 1 + (p - i) = p + 1 by omega, List.getElem?_map, List.getElem?_range (show p + 1 < n by omega)]
    rfl
theorem Delete_any (b n c i : Nat) (F : Nat → Int) (w : World) (hi : i < n) (hn : n ≤ 1000) (hc : n ≤ c ∧ c ≤ maxLen) (hr : RowI w b n F) :
    Calls Tryd.prog 80 #[.slice (some ⟨b, 0, none⟩) n c, .int .i64 i, .int .i64 (i + 1 : Nat)] w fun e w' => e = .returned (.slice (some ⟨b, 0, none⟩) (n - 1) c) ∧ Wr b w w' ∧ RowI w' b (n - 1) (fun p => if p < i then F p else F (p + 1)) := by
  have hl : ((List.range n).map F).length = n := by simp
  have hH : Holds (Value.int .i64) w b 0 ((List.range n).map F).toArray := fun j hj => by
    have hj' : j < n := by simpa using hj
    rw [Nat.zero_add]
    refine ⟨?_, (hr j hj').2⟩
    rw [(hr j hj').1]
    simp [hj']
  have h : Calls Tryd.prog 80 #[.slice (some ⟨b, 0, none⟩) ((List.range n).map F).length c, .int .i64 i, .int .i64 (i + 1 : Nat)] w _ := Any.slices_Delete_int Tryd.del23 b 0 c i (i + 1) ((List.range n).map F) w hH (by rw [hl]; exact hc.1) (by have := hc.2; unfold maxLen at this; omega) (by omega) (by rw [hl]; omega)
  rw [hl] at h
  refine h.mono fun e w' ⟨e1, q, e2⟩ => ?_
  have hs : (((List.range n).map F).take i ++ ((List.range n).map F).drop (i + 1) ++ List.replicate (i + 1 - i) 0).toArray.size = ((List.range n).map F).toArray.size := by simp; omega
  have H2 := holds_putRow (Value.int .i64) (Sort.ahead w q) b 0 _ _ (holds_ahead (Value.int .i64) w q b 0 _ hH) hs
  have G := grownBy_sortedI (w := w) (g := b) (n := q) (os := #[]) (((List.range n).map F).take i ++ ((List.range n).map F).drop (i + 1) ++ List.replicate (i + 1 - i) 0).toArray
  rw [grow_empty] at G
  rw [← e2] at H2 G
  refine ⟨by rw [e1, show i + 1 - i = 1 by omega], G, fun p hp => ?_⟩
  have k := H2 p (by simp; omega)
  rw [Nat.zero_add] at k
  refine ⟨?_, k.2⟩
  rw [k.1]
  have g := getD_del F hi hp
  congr 2
  simp only [List.getElem!_toArray, List.getElem!_eq_getElem?_getD]
  rw [g]
  rfl

end Go.Proofs.YtohcnicadbpbbaaDoor
