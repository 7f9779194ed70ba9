/- Contracts of chapter 1: slices.Concat of two clocks, slices.Sort of local times. -/
import Derived.Test.YtdlbgelidcfmiaaGreatDoorW28
import Derived.Test.YtdlbgelidcfmiaaGreatDoorP11
import Derived.Test.YtdlbgelidcfmiaaGreatDoorShelr
import Derived.Sort.OwnSortedInts
namespace Go.Firn
open Go.RowKit

/-- append(v, s...) of pairs. -/
theorem wpList_cat_pair {P : Program} {ops : Array Oper} {rest : List Oper} {o : Oper} {a : Act} {Q : Exit → Act → World → Prop} (hgd : o.guard = none) (s x : Operand) (t e : TypeId)
    (ho : o.op = .call { callee := .builtin .append, args := #[s, x], argTypes := #[t, t] })
    (ht : P.underlying t = some (.slice e)) (hinfo : (P.info? e).map (fun i => (i.zero, i.size, i.bytes)) = some (some (.agg #[.int .i64 0, .int .i64 0]), 2, 16))
    {w0 w : World} (v : Value) (ms : List (Int × Int)) (hs : a.eval s = v) (hown : OwnM w0 e w v ms)
    (b off n c : Nat) (F G : Nat → Int) (hx : a.eval x = .slice (some ⟨b, off, none⟩) n c) (hc : ∀ i, i < n → w.cell? ⟨b, off + i * 2, none⟩ = some (.int .i64 (F i)) ∧ w.cell? ⟨b, off + i * 2 + 1, none⟩ = some (.int .i64 (G i))) (hk : ms.length + n ≤ 100000)
    (h : ∀ v' w', OwnM w0 e w' v' (ms ++ pairs n F G) → wpList P ops Q rest (a.put o.dst v') w') : wpList P ops Q (o :: rest) a w := by
  refine wpList_plain hgd fun K hK => ?_
  obtain ⟨i0, hi, hz0, hz1, hz2⟩ := info_pair hinfo
  refine wp_append_own w s x t ho w0.heap.size e i0 _ 2 16 ht hi hz0 hz1 hz2 rfl (by decide) v ms.length (pm ms) hs hown.1 ⟨b, off, none⟩ n c (pm (pairs n F G)) hx (by rw [pm_length, pairs_length]) ?_ ?_ ?_ ?_ hown.2.size ?_
  · intro j u hu
    rw [add_flat rfl]
    have hj : j < n * 2 := by
      rcases Nat.lt_or_ge j (n * 2) with h | h
      · exact h
      · rw [List.getElem?_eq_none (by rw [pm_length, pairs_length]; exact h)] at hu; cases hu
    obtain ⟨p0, p1⟩ := pm_at (pairs n F G) (j / 2) (by rw [pairs_length]; omega)
    have e0 := px_pairs F G (show j / 2 < n by omega)
    have e1 := py_pairs F G (show j / 2 < n by omega)
    unfold px at e0
    unfold py at e1
    rw [e0] at p0
    rw [e1] at p1
    rcases Nat.mod_two_eq_zero_or_one j with h | h
    · have ej : j = j / 2 * 2 := by omega
      rw [ej, p0] at hu
      cases hu
      show w.cell? ⟨b, off + j, none⟩ = _
      rw [ej]
      have := (hc (j / 2) (by omega)).1
      rw [show j / 2 * 2 / 2 = j / 2 by omega]
      exact this
    · have ej : j = j / 2 * 2 + 1 := by omega
      rw [ej, p1] at hu
      cases hu
      show w.cell? ⟨b, off + j, none⟩ = _
      rw [ej, ← Nat.add_assoc]
      have := (hc (j / 2) (by omega)).2
      rw [show (j / 2 * 2 + 1) / 2 = j / 2 by omega]
      exact this
  · intro u hu
    unfold pm at hu
    rw [List.mem_flatMap] at hu
    obtain ⟨m, _, hm⟩ := hu
    simp at hm
    rcases hm with rfl | rfl <;> rfl
  · unfold maxLen; omega
  · omega
  · intro v' w' h1 h2 _
    rw [← pm_append] at h1
    refine hK _ _ (h v' w' ⟨?_, hown.2.grown h2 fun k hk => (hown.1.lt k hk).1⟩)
    rw [List.length_append, pairs_length]
    exact h1
/-- A row of pairs in a block of its type. -/
def RetMB (ms : List (Int × Int)) (e0 : TypeId) (w : World) (e : Ending) (w' : World) : Prop :=
  ∃ b c cur, e = .returned (.slice (some ⟨b, 0, none⟩) ms.length c) ∧ w'.heap[b]? = some (.cells cur e0) ∧ RdM w' (some ⟨b, 0, none⟩) ms.length (px ms) (py ms) ∧ Gr w w'
theorem OwnM.retB {w0 w : World} {e : TypeId} {v : Value} {ms : List (Int × Int)} (h : OwnM w0 e w v ms) (hp : 0 < ms.length) : RetMB ms e w0 (.returned v) w := by
  obtain ⟨a, c, e1, _, _, hr⟩ := h.rd
  obtain ⟨hl, hv⟩ := h.1
  rcases hv with ⟨rfl, hz⟩ | ⟨b, cap, cur, rfl, hb, hg, hnc, hcm, hcs, htake⟩
  · omega
  · cases e1
    exact ⟨b, _, cur, rfl, hg, hr, h.2⟩
end Go.Firn
namespace Go.Proofs.YtdlbgelidcfmiaaGreatDoor
open Go.RowKit Go.Firn Go.Shelf Go.Sort

theorem info64 : (Tryz.prog.info? 55).map (fun i => (i.zero, i.size, i.bytes)) = some (some (.agg #[.int .i64 0, .int .i64 0]), 2, 16) := by kernel_rfl
/-- Grow of nil. -/
theorem Grow_any (z : Int) (k : Nat) (hz : z = k) (h1 : 1 ≤ k) (hk : k ≤ 1000) (w0 w : World) (g : Gr w0 w) : Calls Tryz.prog 57 #[.slice none 0 0, .int .i64 z] w fun e w' => ∃ v, e = .returned v ∧ OwnM w0 55 w' v [] ∧ Gr w0 w' := by
  subst hz
  obtain ⟨i0, hi, hz0, hz1, hz2⟩ := info_pair info64
  have h : Calls Tryz.prog 57 #[.slice none 0 0, .int .i64 k] w _ := Any8.slices_Grow_grow Tryz.grow4 i0 _ hi hz0 (by rw [hz1]; omega) none 0 0 k [] w (Nat.le_refl _) (by omega) (by rw [hz2]; omega) (by omega) (by simp) (fun _ => rfl) (fun a ha => by cases ha)
  refine h.mono ?_
  rintro e w' ⟨rfl, rfl⟩
  have gg : Gr w0 (w.drew.alloc (.cells ((([] : List Value).toArray ++ Builtin.zeroCells (Value.agg #[.int .i64 0, .int .i64 0]).cells (0 + k - 0) ++ Builtin.zeroCells (Value.agg #[.int .i64 0, .int .i64 0]).cells (grownCap w (0 + k) 0 (Tryz.grow4_ren.t 25) - (0 + k)))) (Tryz.grow4_ren.t 25))) := (g.drew).alloc _
  have ge := grownCap_ge w (0 + k) 0 (Tryz.grow4_ren.t 25)
  have hm := grownCap_le_maxLen w (0 + k) 0 (Tryz.grow4_ren.t 25) (by unfold maxLen; omega)
  refine ⟨_, rfl, ⟨⟨rfl, .inr ⟨w.heap.size, _, _, rfl, g.size, heap_alloc_new w.drew _, Nat.zero_le _, hm, ?_, rfl⟩⟩, gg⟩, gg⟩
  simp only [Array.size_append, List.size_toArray, size_zeroCells, List.length_nil]
  have : (Value.agg #[.int .i64 0, .int .i64 0]).cells.size = 2 := rfl
  rw [this]
  omega

set_option maxHeartbeats 2000000 in
set_option maxRecDepth 20000 in
theorem Concat_any (b b' o o' bb n c n' c' : Nat) (L T L' T' : Nat → Int) (w : World) (h1 : 1 ≤ n) (h1' : 1 ≤ n') (hn : n ≤ 30) (hn' : n' ≤ 30) (hr : RdM w (some ⟨b, o, none⟩) n L T) (hr' : RdM w (some ⟨b', o', none⟩) n' L' T')
    (hb0 : w.cell? ⟨bb, 0, none⟩ = some (.slice (some ⟨b, o, none⟩) n c)) (hb1 : w.cell? ⟨bb, 1, none⟩ = some (.slice (some ⟨b', o', none⟩) n' c')) :
    Calls Tryz.prog 43 #[.slice (some ⟨bb, 0, none⟩) 2 2] w (RetMB (pairs n L T ++ pairs n' L' T') 55 w) := by
  have HR := Lib.hid (fun w1 (g : Gr w w1) => show ∀ i, i < n → w1.cell? ⟨b, o + i * 2, none⟩ = some (.int .i64 (L i)) ∧ w1.cell? ⟨b, o + i * 2 + 1, none⟩ = some (.int .i64 (T i)) from fun i hi => by
    obtain ⟨b2, o2, e, hc⟩ := (hr.gr g).at hi
    simp at e
    obtain ⟨rfl, rfl⟩ := e
    exact hc i hi)
  have HR' := Lib.hid (fun w1 (g : Gr w w1) => show ∀ i, i < n' → w1.cell? ⟨b', o' + i * 2, none⟩ = some (.int .i64 (L' i)) ∧ w1.cell? ⟨b', o' + i * 2 + 1, none⟩ = some (.int .i64 (T' i)) from fun i hi => by
    obtain ⟨b2, o2, e, hc⟩ := (hr'.gr g).at hi
    simp at e
    obtain ⟨rfl, rfl⟩ := e
    exact hc i hi)
  have B0 := Lib.hid hb0
  have B1 := Lib.hid hb1
  have P0 := Lib.hid (pairs_length n L T)
  clear hr hr' hb0 hb1
  go_enter Tryz.func43, Tryz.ntmps43
  go_wp2
  go_loopw [3, 11] (fun sz si wr => wr = w ∧ ((si = .int .i64 0 ∧ sz = .int .i64 0) ∨ (si = .int .i64 1 ∧ sz = .int .i64 n) ∨ (si = .int .i64 2 ∧ sz = .int .i64 ((n : Int) + (n' : Int))))) (fun _ si _ => 2 - (intOf si).toNat)
  case atStart => exact ⟨rfl, .inl ⟨rfl, rfl⟩⟩
  case round =>
    obtain ⟨hw, hs⟩ := hrel
    subst hw
    rcases hs with ⟨rfl, rfl⟩ | ⟨rfl, rfl⟩ | ⟨rfl, rfl⟩
    · have b0 := B0.out
      have z1 : decide ((n : Int) < 0) = false := by simp
      go_wp2_with fail
      go_roundw
      case rel => exact ⟨by trivial, .inr (.inl ⟨rfl, rfl⟩)⟩
      case measure => simp [intOf]
    · have b1 := B1.out
      have q1 : IntKind.i64.wrap ((n : Int) + (n' : Int)) = (n : Int) + (n' : Int) := IntWalk.i64_in _ (by omega)
      have z1 : decide ((n : Int) + (n' : Int) < 0) = false := by simp; omega
      go_wp2_with fail
      go_roundw
      case rel => exact ⟨by trivial, .inr (.inr ⟨rfl, by first | rfl | (congr 1)⟩)⟩
      case measure => simp [intOf]
    · have CG := Lib.hid (Grow_any ((n : Int) + (n' : Int)) (n + n') (by omega) (by omega) (by omega) wr wr (Gr.refl wr))
      go_wp2_with (go_at_call 57; (with_reducible refine CG.out.mono ?_); rintro e w1 ⟨v1, rfl, ho1, g1⟩; have OW := Lib.hid ho1; have GW := Lib.hid g1; clear ho1 g1)
      go_loopw [6, 27] (fun sv si wx => (si = .int .i64 0 ∧ OwnM wr 55 wx sv []) ∨ (si = .int .i64 1 ∧ OwnM wr 55 wx sv (pairs n L T)) ∨ (si = .int .i64 2 ∧ OwnM wr 55 wx sv (pairs n L T ++ pairs n' L' T'))) (fun _ si _ => 2 - (intOf si).toNat)
      case atStart => exact .inl ⟨rfl, OW.out⟩
      case round =>
        rcases hrel with ⟨rfl, ho⟩ | ⟨rfl, ho⟩ | ⟨rfl, ho⟩
        · have b0 := ho.2.cell B0.out
          have HO := Lib.hid ho
          have hc := Lib.hid (HR.out _ ho.2)
          clear ho
          go_wp2_with (at_builtin; go_must (refine wpList_cat_pair rfl _ _ 23 55 rfl Tryz.underlying23 info64 _ _ rfl HO.out b o n c L T rfl hc.out (by simp; omega) ?_); intro v2 w2 hown2; have H2 := Lib.hid hown2; clear hown2)
          go_roundw
          case rel => exact .inr (.inl ⟨rfl, by simpa using H2.out⟩)
          case measure => simp [intOf]
        · have b1 := ho.2.cell B1.out
          have HO := Lib.hid ho
          have hc := Lib.hid (HR'.out _ ho.2)
          have PL := P0.out
          clear ho
          go_wp2_with (at_builtin; go_must (refine wpList_cat_pair rfl _ _ 23 55 rfl Tryz.underlying23 info64 _ _ rfl HO.out b' o' n' c' L' T' rfl hc.out (by rw [PL]; omega) ?_); intro v2 w2 hown2; have H2 := Lib.hid hown2; clear hown2)
          go_roundw
          case rel => exact .inr (.inr ⟨rfl, H2.out⟩)
          case measure => simp [intOf]
        · go_wp2_with fail
          go_ret
          exact ho.retB (by rw [List.length_append, P0.out]; omega)

/-! ## slices.Sort of ints -/
def lsI (X : Nat → Int) (n : Nat) : List Int := (List.range n).map X
theorem lsI_len (X : Nat → Int) (n : Nat) : (lsI X n).length = n := by simp [lsI]
def srI (X : Nat → Int) (n : Nat) : List Int := (lsI X n).mergeSort fun x y => decide (x ≤ y)
theorem srI_len (X : Nat → Int) (n : Nat) : (srI X n).length = n := by unfold srI; rw [List.length_mergeSort, lsI_len]
theorem srI_perm (X : Nat → Int) (n : Nat) : (srI X n).Perm (lsI X n) := List.mergeSort_perm _ _
theorem srI_sorted (X : Nat → Int) (n : Nat) : (srI X n).Pairwise (· ≤ ·) := by
  have h := List.pairwise_mergeSort (le := fun x y : Int => decide (x ≤ y)) (by intro a b c; simp; omega) (by intro a b; simp; omega) (lsI X n)
  exact h.imp (by simp)
/-- The sorted numbers, by their places. -/
def srF (X : Nat → Int) (n : Nat) (i : Nat) : Int := (srI X n).getD i 0
theorem srF_mono {X : Nat → Int} {n i j : Nat} (h : i ≤ j) (hj : j < n) : srF X n i ≤ srF X n j := by
  rcases Nat.lt_or_eq_of_le h with h | rfl
  · have hp := List.pairwise_iff_getElem.1 (srI_sorted X n) i j (by rw [srI_len]; omega) (by rw [srI_len]; exact hj) h
    unfold srF
    rw [List.getD_eq_getElem?_getD, List.getD_eq_getElem?_getD, List.getElem?_eq_getElem (by rw [srI_len]; omega), List.getElem?_eq_getElem (by rw [srI_len]; exact hj)]
    exact hp
  · exact Int.le_refl _
theorem srF_mem {X : Nat → Int} {n i : Nat} (h : i < n) : ∃ k, k < n ∧ srF X n i = X k := by
  have hi : i < (srI X n).length := by rw [srI_len]; exact h
  have : srF X n i ∈ lsI X n := by
    rw [← (srI_perm X n).mem_iff]
    unfold srF
    rw [List.getD_eq_getElem?_getD, List.getElem?_eq_getElem hi]
    exact List.getElem_mem hi
  unfold lsI at this
  obtain ⟨k, hk, e⟩ := List.mem_map.1 this
  exact ⟨k, List.mem_range.1 hk, e.symm⟩
theorem mem_srF {X : Nat → Int} {n k : Nat} (h : k < n) : ∃ i, i < n ∧ srF X n i = X k := by
  have : X k ∈ srI X n := (srI_perm X n).mem_iff.2 (List.mem_map.2 ⟨k, List.mem_range.2 h, rfl⟩)
  obtain ⟨i, hi, e⟩ := List.getElem_of_mem this
  refine ⟨i, by rw [srI_len] at hi; exact hi, ?_⟩
  unfold srF
  rw [List.getD_eq_getElem?_getD, List.getElem?_eq_getElem hi]
  exact e

/-- A row in a block, that may be written. -/
def RowI (w : World) (b m : Nat) (F : Nat → Int) : Prop := ∀ p, p < m → w.cell? ⟨b, p, none⟩ = some (.int .i64 (F p)) ∧ w.frozen? ⟨b, p, none⟩ = false
theorem rowI_of_owns {w : World} {base e n : Nat} {v : Value} {f : Nat → Int} (h : w.ownsRow base e 1 v n (ints n f)) (hn : 0 < n) : ∃ b c, v = .slice (some ⟨b, 0, none⟩) n c ∧ n ≤ c ∧ c ≤ maxLen ∧ base ≤ b ∧ RowI w b n f := by
  have h0 := h
  obtain ⟨hl, hv⟩ := h
  rcases hv with ⟨rfl, hz⟩ | ⟨b, cap, cur, rfl, hb, hg, hnc, hcm, hcs, htake⟩
  · omega
  · refine ⟨b, cap, rfl, hnc, hcm, hb, fun p hp => ?_⟩
    have hc := h0.cells (g := b) rfl p (.int .i64 (f p)) (by simp [ints, hp])
    have hadd : (⟨b, 0, none⟩ : Addr).add p = ⟨b, p, none⟩ := by rw [add_flat rfl]; simp
    rw [hadd] at hc
    refine ⟨hc, ?_⟩
    unfold World.frozen?
    rw [hg]
    simp
theorem SortT_any (e0 : TypeId) (w0 w : World) (n : Nat) (v : Value) (X : Nat → Int) (hp : 0 < n) (hn : n ≤ 1000) (h : OwnI w0 e0 w v n X) :
    Calls Tryz.prog 44 #[v] w fun e w' => e = .returned (.tuple #[]) ∧ ∃ b c, v = .slice (some ⟨b, 0, none⟩) n c ∧ w0.heap.size ≤ b ∧ (∀ i, i < n → w'.cell? ⟨b, i, none⟩ = some (.int .i64 (srF X n i))) ∧ Gr w0 w' := by
  obtain ⟨b, c, rfl, h1, h2, h3, h4⟩ := rowI_of_owns h.1 hp
  have hl := lsI_len X n
  have hH : Holds (Value.int .i64) w b 0 (lsI X n).toArray := fun j hj => by
    have hj' : j < n := by simpa [hl] using hj
    rw [Nat.zero_add]
    refine ⟨?_, (h4 j hj').2⟩
    rw [(h4 j hj').1]
    simp [lsI, hj']
  have hblk : b < w.heap.size := World.block_lt_of_cell? w _ (h4 0 hp).1
  have hc : Calls Tryz.prog 44 #[.slice (some ⟨b, 0, none⟩) (lsI X n).length c] w _ := AnyM.slices_Sort_int Tryz.sort5 b 0 c (lsI X n) w hH hblk (by omega)
  rw [hl] at hc
  refine hc.mono fun e w' ⟨e1, q, os, e2⟩ => ?_
  have hs : (srI X n).toArray.size = (lsI X n).toArray.size := by simp [srI_len, hl]
  have H2 := holds_putRow (Value.int .i64) (Sort.ahead w q) b 0 _ _ (holds_ahead (Value.int .i64) w q b 0 _ hH) hs
  have G := grownBy_sortedI (w := w) (g := b) (n := q) (os := os) (srI X n).toArray
  have e2 : w' = grow (putRow (Value.int .i64) (Sort.ahead w q) b 0 (srI X n).toArray) os := e2
  rw [← e2] at G
  refine ⟨e1, b, c, rfl, h3, fun i hi => ?_, h.2.grown G (fun k hk => by cases hk; exact h3)⟩
  have k := H2 i (by simp [srI_len, hi])
  have hb2 : b < (putRow (Value.int .i64) (Sort.ahead w q) b 0 (srI X n).toArray).heap.size := World.block_lt_of_cell? _ _ k.1
  rw [Nat.zero_add] at k
  rw [e2, cell?_grow _ _ _ hb2, k.1]
  have hi' : i < (srI X n).length := by rw [srI_len]; exact hi
  unfold srF
  simp [hi']

end Go.Proofs.YtdlbgelidcfmiaaGreatDoor
