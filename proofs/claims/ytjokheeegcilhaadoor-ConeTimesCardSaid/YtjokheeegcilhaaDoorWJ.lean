/- Contracts of chapter 2: slices.Sort and slices.BinarySearch at the times of hits. -/
import Derived.Test.YtjokheeegcilhaaDoorPC
import Derived.Test.YtjokheeegcilhaaDoorShelr
import Derived.Test.YtjokheeegcilhaaDoorRan
import Derived.Test.YtjokheeegcilhaaDoorCow
import Derived.Sort.OwnSortedInts
import Derived.Maps.OwnIn
import Derived.RangeFuncBox
namespace Go.Firn
open Go.RowKit
section
variable {F : Fence} {n : Nat} {P : Program}
/-- append(v, r) inside a fence: the row with one int more. -/
theorem wpListIn_app_int {ops : Array Oper} {rest : List Oper} {o : Oper} {a : Act} {Q : Exit → Act → World → Prop} (hgd : o.guard = none) (s x : Operand) (t e : TypeId)
    (ho : o.op = .call { callee := .builtin .append, args := #[s, x], argTypes := #[t, t] })
    (ht : P.underlying t = some (.slice e)) (hinfo : (P.info? e).map (fun i => (i.zero, i.size, i.bytes)) = some (some (.int .i64 0), 1, 8))
    {w0 w : World} (v : Value) (k : Nat) (f : Nat → Int) (hs : a.eval s = v) (hown : OwnI w0 e w v k f)
    (g : Nat) (r : Int) (hx : a.eval x = .slice (some ⟨g, 0, none⟩) 1 1) (hg : w.cell? ⟨g, 0, none⟩ = some (.int .i64 r)) (hf : f k = r) (hk : k < 1000000000)
    (h : ∀ v' w', OwnI w0 e w' v' (k + 1) f → w.grownBy w' v.ownBlock → wpListIn F n P ops Q rest (a.put o.dst v') w') : wpListIn F n P ops Q (o :: rest) a w := by
  obtain ⟨i0, hi, hz0, hz1, hz2⟩ := info_int hinfo
  subst hf
  refine wpListIn_append_own w hgd s x t ho w0.heap.size e i0 (.int .i64 0) 1 8 ht hi hz0 hz1 hz2 rfl (by decide) v k (ints k f) hs hown.1 ⟨g, 0, none⟩ 1 1 [.int .i64 (f k)] hx rfl ?_ ?_ ?_ ?_ hown.2.size ?_
  · intro j u hu
    cases j with
    | zero => simp at hu; subst hu; exact hg
    | succ j => simp at hu
  · simp [Value.oneCell']
  · unfold maxLen; omega
  · omega
  · intro v' w' h1 h2 _
    rw [← ints_succ] at h1
    exact h v' w' ⟨h1, hown.2.grown h2 fun k hk => (hown.1.lt k hk).1⟩ h2
end
theorem grows {w w' : World} (g : Gr w w') : w.grownBy w' none := ⟨g.os, g.tape, g.output, Gr.size g, fun k hk _ => Below.block g k hk⟩
theorem Gr.others {W W' : World} (h : Gr W W') : KeepsOthers W W' := ⟨h.size, fun k o hk _ => by
  have := Below.block h k (Array.getElem?_eq_some_iff.1 hk).1
  exact this.trans hk⟩
end Go.Firn
namespace Go.Proofs.YtjokheeegcilhaaDoor
open Go.RowKit Go.Firn Go.Sort Go.Shelf

/-- A row in a block, that may be written. -/
def RowI (w : World) (b m : Nat) (F : Nat → Int) : Prop := ∀ p, p < m → w.cell? ⟨b, p, none⟩ = some (.int .i64 (F p)) ∧ w.frozen? ⟨b, p, none⟩ = false
theorem rowI_of_owns {w : World} {base n : Nat} {v : Value} {f : Nat → Int} (h : w.ownsRow base 3 1 v n (ints n f)) (hn : 0 < n) : ∃ b c, v = .slice (some ⟨b, 0, none⟩) n c ∧ n ≤ c ∧ c ≤ maxLen ∧ base ≤ b ∧ RowI w b n f := by
  have h0 := h
  obtain ⟨hl, hv⟩ := h
  rcases hv with ⟨rfl, hz⟩ | ⟨b, cap, cur, rfl, hb, hg, hnc, hcm, hcs, htake⟩
  · omega
  · refine ⟨b, cap, rfl, hnc, hcm, hb, fun p hp => ?_⟩
    have hc := h0.cells (g := b) rfl p (.int .i64 (f p)) (by simp [ints, hp])
    have hadd : (⟨b, 0, none⟩ : Addr).add p = ⟨b, p, none⟩ := by rw [add_flat rfl]; simp
    rw [hadd] at hc
    refine ⟨hc, ?_⟩
    unfold World.frozen?
    rw [hg]
    simp
theorem SortT_any (w0 w : World) (n : Nat) (v : Value) (X : Nat → Int) (hp : 0 < n) (hn : n ≤ 1000) (h : OwnI w0 3 w v n X) :
    Calls Tryd.prog 108 #[v] w fun e w' => e = .returned (.tuple #[]) ∧ ∃ b c, v = .slice (some ⟨b, 0, none⟩) n c ∧ w0.heap.size ≤ b ∧ (∀ i, i < n → w'.cell? ⟨b, i, none⟩ = some (.int .i64 (srF X n i))) ∧ Gr w0 w' := by
  obtain ⟨b, c, rfl, h1, h2, h3, h4⟩ := rowI_of_owns h.1 hp
  have hl := lsI_len X n
  have hH : Holds (Value.int .i64) w b 0 (lsI X n).toArray := fun j hj => by
    have hj' : j < n := by simpa [hl] using hj
    rw [Nat.zero_add]
    refine ⟨?_, (h4 j hj').2⟩
    rw [(h4 j hj').1]
    simp [lsI, hj']
  have hblk : b < w.heap.size := World.block_lt_of_cell? w _ (h4 0 hp).1
  have hc : Calls Tryd.prog 108 #[.slice (some ⟨b, 0, none⟩) (lsI X n).length c] w _ := AnyM.slices_Sort_int Tryd.sort5 b 0 c (lsI X n) w hH hblk (by omega)
  rw [hl] at hc
  refine hc.mono fun e w' ⟨e1, q, os, e2⟩ => ?_
  have hs : (srI X n).toArray.size = (lsI X n).toArray.size := by simp [srI_len, hl]
  have H2 := holds_putRow (Value.int .i64) (Sort.ahead w q) b 0 _ _ (holds_ahead (Value.int .i64) w q b 0 _ hH) hs
  have G := grownBy_sortedI (w := w) (g := b) (n := q) (os := os) (srI X n).toArray
  have e2 : w' = grow (putRow (Value.int .i64) (Sort.ahead w q) b 0 (srI X n).toArray) os := e2
  rw [← e2] at G
  refine ⟨e1, b, c, rfl, h3, fun i hi => ?_, h.2.grown G (fun k hk => by cases hk; exact h3)⟩
  have k := H2 i (by simp [srI_len, hi])
  have hb2 : b < (putRow (Value.int .i64) (Sort.ahead w q) b 0 (srI X n).toArray).heap.size := World.block_lt_of_cell? _ _ k.1
  rw [Nat.zero_add] at k
  rw [e2, cell?_grow _ _ _ hb2, k.1]
  have hi' : i < (srI X n).length := by rw [srI_len]; exact hi
  unfold srF
  simp [hi']
theorem BS_any (g n c : Nat) (T : Nat → Int) (x : Int) (w : World) (hn : n ≤ 14) (hc : ∀ i, i < n → w.cell? ⟨g, i, none⟩ = some (.int .i64 (srF T n i))) :
    Calls Tryd.prog 109 #[.slice (some ⟨g, 0, none⟩) n c, .int .i64 x] w fun e w' => (∃ f, e = .returned (.tuple #[.int .i64 ((srI T n).countP (fun y => decide (y < x)) : Nat), .bool f])) ∧ ∃ q, w' = w.drewN q := by
  have hl := srI_len T n
  have tk : (srI T n).take n = srI T n := List.take_of_length_le (by omega)
  have h : Calls Tryd.prog 109 #[.slice (some ⟨g, 0, none⟩) n c, .int .i64 x] w _ := Any.slices_BinarySearch_int Tryd.lays25 g 0 n c (srI T n) x w (by omega) (by omega) (fun j hj => by
    rw [Nat.zero_add]
    exact hc j (by omega)) (by rw [tk]; exact srI_sorted T n)
  rw [tk] at h
  exact h.mono fun e w' ⟨h1, h2⟩ => ⟨⟨_, h1⟩, h2⟩

end Go.Proofs.YtjokheeegcilhaaDoor
