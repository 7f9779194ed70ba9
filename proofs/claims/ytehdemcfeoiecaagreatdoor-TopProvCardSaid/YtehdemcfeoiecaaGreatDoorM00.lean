/- Contracts of chapter 9: whether a text has a token; a copy of numbers; the plain law of ProvSpares. -/
import Derived.Test.YtehdemcfeoiecaaGreatDoorK05
import Derived.Test.YtehdemcfeoiecaaGreatDoorK14
set_option maxHeartbeats 64000000
set_option maxRecDepth 100000
namespace Go.Proofs.YtehdemcfeoiecaaGreatDoor
open Go.RowKit Go.Firn Go.Shelf Go.Maps Go.WideMaps
/-! ## The plain law -/
def zeroAt (k : Nat) (l : Nat → Int) : Nat → Int := fun i => if i = k then 0 else l i
theorem zero_nm {k n : Nat} {l : Nat → Int} (h : nmB l n 10 = true) : nmB (zeroAt k l) n 10 = true := by
 obtain ⟨rfl, h2⟩ := nmB_at h
 unfold nmB at h ⊢
 rw [Bool.and_eq_true] at h ⊢
 refine ⟨?_, by simp⟩
 have h3 := h.1
 unfold nmK at h3 ⊢
 rw [List.all_eq_true] at h3 ⊢
 intro i hi
 have a := h3 i hi
 unfold zeroAt
 by_cases e : i = k
 ·simp [e, btw]
 simpa [e] using a
/-! ## The walks -/
theorem wpList_cat_int {P : Program} {ops : Array Oper} {rest : List Oper} {o : Oper} {a : Act} {Q : Exit → Act → World → Prop} (hgd : o.guard = none) (s x : Operand) (t e : TypeId)
  (ho : o.op = .call { callee := .builtin .append, args := #[s, x], argTypes := #[t, t] })
  (ht : P.underlying t = some (.slice e)) (hinfo : (P.info? e).map (fun i => (i.zero, i.size, i.bytes)) = some (some (.int .i64 0), 1, 8))
  {w0 w : World} (v : Value) (hs : a.eval s = v) (hown : w.ownsRow w0.heap.size e 1 v 0 []) (hg : Gr w0 w)
  (b off n c : Nat) (f : Nat → Int) (hx : a.eval x = .slice (some ⟨b, off, none⟩) n c) (hc : ∀ i, i < n → w.cell? ⟨b, off + i, none⟩ = some (.int .i64 (f i))) (hk : n ≤ 1000000)
  (h : ∀ v' w', OwnI w0 e w' v' n f → wpList P ops Q rest (a.put o.dst v') w') : wpList P ops Q (o :: rest) a w := by
 obtain ⟨i0, hi, hz0, hz1, hz2⟩ := info_int hinfo
 refine wpList_append_own w hgd s x t ho w0.heap.size e i0 _ 1 8 ht hi hz0 hz1 hz2 rfl (by decide) v 0 [] hs hown ⟨b, off, none⟩ n c (ints n f) hx (by simp [ints]) ?_ ?_ (by unfold maxLen; omega) (by omega) hg.size ?_
 ·intro j u hu
  rw [add_flat rfl]
  unfold ints at hu
  rw [List.getElem?_map] at hu
  by_cases hj : j < n
  ·rw [List.getElem?_range hj] at hu
   cases hu
   exact hc j hj
  rw [List.getElem?_eq_none (by simpa using hj)] at hu
  cases hu
 ·intro u hu
  unfold ints at hu
  obtain ⟨i, _, rfl⟩ := List.mem_map.1 hu
  rfl
 intro v' w' h1 h2 _
 rw [Nat.zero_add, List.nil_append] at h1
 exact h v' w' ⟨h1, hg.grown h2 fun k hk => (hown.lt k hk).1⟩
theorem OwnI.eight {w0 w : World} {e : TypeId} {v : Value} {f : Nat → Int} (h : OwnI w0 e w v 8 f) : ∃ g c, v = .slice (some ⟨g, 0, none⟩) 8 c ∧ w0.heap.size ≤ g ∧ g < w.heap.size ∧ ∀ i, i < 8 → w.cell? ⟨g, i, none⟩ = some (.int .i64 (f i)) ∧ w.frozen? ⟨g, i, none⟩ = false := by
 have h0 := h.1
 obtain ⟨hl, hv⟩ := h.1
 rcases hv with ⟨rfl, hz⟩ | ⟨g, cap, cur, rfl, hb, hg, hnc, hcm, hcs, htake⟩
 ·omega
 refine ⟨g, cap, rfl, (h0.lt g rfl).1, (h0.lt g rfl).2, fun i hi => ?_⟩
 have c0 := h0.cells (g := g) rfl i (.int .i64 (f i)) (by simp [ints, hi])
 rw [add_flat rfl] at c0
 simp only [Nat.zero_add] at c0
 exact ⟨c0, h0.frozenAt _⟩
theorem rd_zero {w : World} {g k : Nat} {f : Nat → Int} (h : ∀ i, i < 8 → w.cell? ⟨g, i, none⟩ = some (.int .i64 (f i))) (_hk : k < 8) : RdI (w.setCell ⟨g, k, none⟩ (.int .i64 0)) (some ⟨g, 0, none⟩) 8 (zeroAt k f) := by
 refine .inr ⟨g, 0, rfl, fun i hi => ?_⟩
 rw [Nat.zero_add]
 unfold zeroAt
 by_cases e : i = k
 ·subst e
  rw [if_pos rfl]
  exact cell_near (h i hi) _
 rw [if_neg e]
 exact cell_by (h i hi) (fun h => e h.symm) _
end Go.Proofs.YtehdemcfeoiecaaGreatDoor
