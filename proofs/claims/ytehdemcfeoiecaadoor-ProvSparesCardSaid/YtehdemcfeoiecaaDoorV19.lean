/- Contracts of chapter 9: whether a text has a token; a copy of numbers; the plain law of ProvSpares. -/
import Derived.Test.YtehdemcfeoiecaaDoorV18
import Derived.Test.YtehdemcfeoiecaaDoorV13
namespace Go.Proofs.YtehdemcfeoiecaaDoor
open Go.RowKit Go.Firn Go.Shelf Go.Maps Go.WideMaps

/-! ## The plain law -/
theorem compact_mem {k : Key} {c : UInt8} : c ∈ Lib.compact k ↔ c ∈ k := by
  unfold Lib.compact Lib.compactUpTo
  simp only [List.mem_map, List.mem_filter, List.mem_range]
  constructor
  · rintro ⟨j, ⟨hj, _⟩, rfl⟩
    rw [getElem!_pos _ j (by simpa using hj)]
    simp
  · intro h
    obtain ⟨i, hi, rfl⟩ := List.getElem_of_mem h
    have key : ∀ i, (hi : i < k.length) → ∃ j, (j < k.length ∧ Lib.keeps k.toArray j = true) ∧ k.toArray[j]! = k[i] := by
      intro i
      induction i with
      | zero =>
        intro hi
        exact ⟨0, ⟨hi, by simp [Lib.keeps]⟩, by simp [hi]⟩
      | succ i ih =>
        intro hi
        by_cases e : k[i + 1] = k[i]
        · obtain ⟨j, h1, h2⟩ := ih (by omega)
          exact ⟨j, h1, by rw [h2, e]⟩
        · refine ⟨i + 1, ⟨hi, ?_⟩, by simp [hi]⟩
          unfold Lib.keeps
          have h1 : k.toArray[i + 1]! = k[i + 1] := by simp [hi]
          have h2 : k.toArray[i]! = k[i] := by simp [show i < k.length by omega]
          simp only [decide_eq_true_eq]
          right
          rw [show i + 1 - 1 = i from rfl, h1, h2]
          exact e
    exact key i hi
theorem tokK_mem {L : SL} {c : UInt8} : c ∈ tokK L ↔ ∃ x ∈ L, c ∈ x.1 := by
  unfold tokK sortU
  rw [compact_mem, (List.mergeSort_perm _ _).mem_iff]
  unfold allK
  rw [List.mem_flatMap]
theorem spared_vL {c : UInt8} {L : SL} (h : vL L = true) : vL (sparedL c L) = true := by
  obtain ⟨⟨h1, h2, h3⟩, h4⟩ := vL_iff.1 h
  have sub : (sparedL c L).Sublist L := List.filter_sublist
  refine vL_iff.2 ⟨⟨h1.sublist sub, fun x hx => h2 x (sub.subset hx), fun x hx => h3 x (sub.subset hx)⟩, ?_⟩
  unfold overL at h4 ⊢
  rw [Bool.or_eq_false_iff] at h4 ⊢
  refine ⟨?_, ?_⟩
  · rw [List.any_eq_false] at h4 ⊢
    exact fun x hx => h4.1 x (sub.subset hx)
  · have := spared_le c L
    have h5 := h4.2
    simp only [decide_eq_false_iff_not, Nat.not_lt] at h5 ⊢
    omega
theorem spared_left (c : UInt8) (L : SL) : (tokK (sparedL c L)).contains c = false := by
  rw [Bool.eq_false_iff]
  intro h
  obtain ⟨x, hx, hc⟩ := tokK_mem.1 (by simpa using h)
  unfold sparedL at hx
  have := (List.mem_filter.1 hx).2
  unfold delP at this
  simp at this
  exact this hc
theorem spared_same {c : UInt8} {L : SL} (h : (tokK L).contains c = false) : sparedL c L = L := spared_none fun x hx => by
  rw [Bool.eq_false_iff]
  intro hd
  rw [Bool.eq_false_iff] at h
  exact h (by simpa using tokK_mem.2 ⟨x, hx, by simpa [delP] using hd⟩)
theorem spared_less {c : UInt8} {L : SL} (h : (tokK L).contains c = true) : (sparedL c L).length < L.length := by
  obtain ⟨x, hx, hc⟩ := tokK_mem.1 (show c ∈ tokK L by simpa using h)
  unfold sparedL
  refine List.length_filter_lt_length_iff_exists.2 ⟨x, hx, ?_⟩
  simp [delP, hc]
/-- The numbers with 0 at a place. -/
def zeroAt (k : Nat) (l : Nat → Int) : Nat → Int := fun i => if i = k then 0 else l i
theorem wK_zero {k : Nat} {l : Nat → Int} {c : UInt8} (hc : c.toNat - 97 = k) : ∀ {p : Key}, c ∈ p → wK (zeroAt k l) p = 0
  | b :: r, h => by
    show zeroAt k l (b.toNat - 97) * wK (zeroAt k l) r = 0
    rcases List.mem_cons.1 h with rfl | h
    · rw [zeroAt, if_pos hc, Int.zero_mul]
    · rw [wK_zero hc h, Int.mul_zero]
theorem wK_keep {k : Nat} {l : Nat → Int} {c : UInt8} (hc : c.toNat - 97 = k) (h97 : 97 ≤ c.toNat) : ∀ {p : Key}, (∀ b ∈ p, 97 ≤ b.toNat) → c ∉ p → wK (zeroAt k l) p = wK l p
  | [], _, _ => rfl
  | b :: r, hp, h => by
    show zeroAt k l (b.toNat - 97) * wK (zeroAt k l) r = l (b.toNat - 97) * wK l r
    rw [wK_keep hc h97 (fun x hx => hp x (List.mem_cons_of_mem _ hx)) (fun e => h (List.mem_cons_of_mem _ e)), zeroAt, if_neg]
    intro e
    have hb := hp b List.mem_cons_self
    exact h (by
      have : b = c := UInt8.toNat_inj.1 (by omega)
      rw [this]; exact List.mem_cons_self)
theorem val_spared {k : Nat} {l : Nat → Int} {c : UInt8} (hc : c.toNat - 97 = k) (h97 : 97 ≤ c.toNat) : ∀ {L : SL}, (∀ x ∈ L, tkL x.1) → valL (zeroAt k l) L = valL (zeroAt k l) (sparedL c L) ∧ valL (zeroAt k l) (sparedL c L) = valL l (sparedL c L)
  | [], _ => ⟨rfl, rfl⟩
  | x :: r, h => by
    obtain ⟨h1, h2⟩ := val_spared (k := k) (l := l) hc h97 (L := r) fun y hy => h y (List.mem_cons_of_mem _ hy)
    unfold valL at h1 h2 ⊢
    unfold sparedL at h1 h2 ⊢
    rw [List.filter_cons]
    by_cases hd : c ∈ x.1
    · have e : delP c x = true := by simpa [delP] using hd
      rw [e]
      simp only [Bool.not_true, Bool.false_eq_true, if_false]
      refine ⟨?_, h2⟩
      show x.2 * wK (zeroAt k l) x.1 + tot (wK (zeroAt k l)) r = _
      rw [wK_zero hc hd, Int.mul_zero, Int.zero_add, h1]
    · have e : delP c x = false := by simpa [delP] using hd
      rw [e]
      simp only [Bool.not_false, if_true]
      refine ⟨?_, ?_⟩
      · show x.2 * wK (zeroAt k l) x.1 + tot (wK (zeroAt k l)) r = x.2 * wK (zeroAt k l) x.1 + tot (wK (zeroAt k l)) _
        rw [h1]
      · show x.2 * wK (zeroAt k l) x.1 + tot (wK (zeroAt k l)) _ = x.2 * wK l x.1 + tot (wK l) _
        rw [h2, wK_keep hc h97 (fun b hb => (((h x List.mem_cons_self).1) b hb).1) hd]
theorem zero_nm {k n : Nat} {l : Nat → Int} (h : nmB l n 10 = true) : nmB (zeroAt k l) n 10 = true := by
  obtain ⟨rfl, h2⟩ := nmB_at h
  unfold nmB at h ⊢
  rw [Bool.and_eq_true] at h ⊢
  refine ⟨?_, by simp⟩
  have h3 := h.1
  unfold nmK at h3 ⊢
  rw [List.all_eq_true] at h3 ⊢
  intro i hi
  have a := h3 i hi
  unfold zeroAt
  by_cases e : i = k
  · simp [e, btw]
  · simpa [e] using a

/-! ## The walks -/
theorem ext_one {s : ByteArray} {k : Nat} (h : k < s.size) : (s.extract k (k + 1)).toList = [s.data.toList[k]'(by rw [size_key]; exact h)] := by
  rw [ByteArray.toList_eq, ByteArray.data_extract, Array.toList_extract]
  have hl : k < s.data.toList.length := by rw [size_key]; exact h
  rw [List.extract_eq_take_drop, List.drop_eq_getElem_cons hl, Nat.add_sub_cancel_left]
  rfl
theorem ext_is {s : ByteArray} {k : Nat} {c : UInt8} (h : k < s.size) : ((s.extract k (k + 1)).toList == [c]) = decide (s.data.toList[k]? = some c) := by
  have hl : k < s.data.toList.length := by rw [size_key]; exact h
  rw [ext_one h, List.getElem?_eq_getElem hl]
  by_cases e : s.data.toList[k] = c
  · simp [e]
  · rw [decide_eq_false (by simpa using e)]
    simpa using e

set_option maxHeartbeats 1000000 in
theorem has_any (s : ByteArray) (c : UInt8) (hs : s.size ≤ 1000000) (w : World) : Calls Tryd.prog 27 #[.string s, .string ⟨#[c]⟩] w (RetB (s.data.toList.contains c) w) := by
  generalize hd : s.data.toList.contains c = d
  have HD := Lib.hid hd
  clear hd
  go_enter Tryd.func27, Tryd.ntmps27
  go_wp2_with fail
  go_loopw [8] (fun i wr => ∃ k : Nat, k ≤ s.size ∧ i = .int .i64 k ∧ Hid (∀ j, j < k → s.data.toList[j]? ≠ some c) ∧ Gr w wr) (fun i _ => s.size - (intOf i).toNat)
  case atStart => exact ⟨0, Nat.zero_le _, rfl, Lib.hid (fun j hj => absurd hj (Nat.not_lt_zero j)), Gr.refl _⟩
  case round =>
    obtain ⟨k, hk, rfl, Hi, hg⟩ := hrel
    by_cases hlt : k < s.size
    · have i1 : (k : Int) < s.size := by omega
      have w2 : IntKind.i64.wrap ((k : Int) + 1) = ((k + 1 : Nat) : Int) := by rw [IntWalk.i64_in _ (by omega)]; omega
      have i3 : ((k : Int) + 1) ≤ s.size := by omega
      have HX := Lib.hid (ext_is (c := c) hlt)
      cases hb : ((s.extract k (k + 1)).toList == [c])
      · have HN := Lib.hid (show s.data.toList[k]? ≠ some c by have := HX.out; rw [hb] at this; simpa using this.symm)
        go_wp2_with fail
        go_roundw
        case rel => exact ⟨k + 1, hlt, by go_num, Lib.hid (fun j hj => by
          rcases Nat.lt_succ_iff_lt_or_eq.1 hj with h | rfl
          · exact Hi.out j h
          · exact HN.out), hg⟩
        case measure => simp [intOf]; omega
      · have HY := Lib.hid (show d = true by
          rw [← HD.out]
          have := HX.out
          rw [hb] at this
          have h2 : s.data.toList[k]? = some c := by simpa using this.symm
          have := List.mem_of_getElem? h2
          simpa using this)
        go_wp2_with fail
        go_ret
        rw [HY.out]
        exact ⟨rfl, hg⟩
    · obtain rfl : k = s.size := by omega
      have i1 : ¬ (s.size : Int) < (s.size : Int) := by omega
      have HY := Lib.hid (show d = false by
        rw [← HD.out]
        rw [Bool.eq_false_iff]
        intro h
        obtain ⟨j, hj, e⟩ := List.getElem_of_mem (show c ∈ s.data.toList by simpa using h)
        exact Hi.out j (by rw [← size_key]; exact hj) (by rw [List.getElem?_eq_getElem hj, e]))
      go_wp2_with fail
      go_ret
      rw [HY.out]
      exact ⟨rfl, hg⟩

/-- A copy of a slice of ints, behind an empty row. -/
theorem wpList_cat_int {P : Program} {ops : Array Oper} {rest : List Oper} {o : Oper} {a : Act} {Q : Exit → Act → World → Prop} (hgd : o.guard = none) (s x : Operand) (t e : TypeId)
    (ho : o.op = .call { callee := .builtin .append, args := #[s, x], argTypes := #[t, t] })
    (ht : P.underlying t = some (.slice e)) (hinfo : (P.info? e).map (fun i => (i.zero, i.size, i.bytes)) = some (some (.int .i64 0), 1, 8))
    {w0 w : World} (v : Value) (hs : a.eval s = v) (hown : w.ownsRow w0.heap.size e 1 v 0 []) (hg : Gr w0 w)
    (b off n c : Nat) (f : Nat → Int) (hx : a.eval x = .slice (some ⟨b, off, none⟩) n c) (hc : ∀ i, i < n → w.cell? ⟨b, off + i, none⟩ = some (.int .i64 (f i))) (hk : n ≤ 1000000)
    (h : ∀ v' w', OwnI w0 e w' v' n f → wpList P ops Q rest (a.put o.dst v') w') : wpList P ops Q (o :: rest) a w := by
  obtain ⟨i0, hi, hz0, hz1, hz2⟩ := info_int hinfo
  refine wpList_append_own w hgd s x t ho w0.heap.size e i0 _ 1 8 ht hi hz0 hz1 hz2 rfl (by decide) v 0 [] hs hown ⟨b, off, none⟩ n c (ints n f) hx (by simp [ints]) ?_ ?_ (by unfold maxLen; omega) (by omega) hg.size ?_
  · intro j u hu
    rw [add_flat rfl]
    unfold ints at hu
    rw [List.getElem?_map] at hu
    by_cases hj : j < n
    · rw [List.getElem?_range hj] at hu
      cases hu
      exact hc j hj
    · rw [List.getElem?_eq_none (by simpa using hj)] at hu
      cases hu
  · intro u hu
    unfold ints at hu
    obtain ⟨i, _, rfl⟩ := List.mem_map.1 hu
    rfl
  · intro v' w' h1 h2 _
    rw [Nat.zero_add, List.nil_append] at h1
    exact h v' w' ⟨h1, hg.grown h2 fun k hk => (hown.lt k hk).1⟩
/-- Such a row of 8. -/
theorem OwnI.eight {w0 w : World} {e : TypeId} {v : Value} {f : Nat → Int} (h : OwnI w0 e w v 8 f) : ∃ g c, v = .slice (some ⟨g, 0, none⟩) 8 c ∧ w0.heap.size ≤ g ∧ g < w.heap.size ∧ ∀ i, i < 8 → w.cell? ⟨g, i, none⟩ = some (.int .i64 (f i)) ∧ w.frozen? ⟨g, i, none⟩ = false := by
  have h0 := h.1
  obtain ⟨hl, hv⟩ := h.1
  rcases hv with ⟨rfl, hz⟩ | ⟨g, cap, cur, rfl, hb, hg, hnc, hcm, hcs, htake⟩
  · omega
  · refine ⟨g, cap, rfl, (h0.lt g rfl).1, (h0.lt g rfl).2, fun i hi => ?_⟩
    have c0 := h0.cells (g := g) rfl i (.int .i64 (f i)) (by simp [ints, hi])
    rw [add_flat rfl] at c0
    simp only [Nat.zero_add] at c0
    exact ⟨c0, h0.frozenAt _⟩
theorem rd_zero {w : World} {g k : Nat} {f : Nat → Int} (h : ∀ i, i < 8 → w.cell? ⟨g, i, none⟩ = some (.int .i64 (f i))) (_hk : k < 8) : RdI (w.setCell ⟨g, k, none⟩ (.int .i64 0)) (some ⟨g, 0, none⟩) 8 (zeroAt k f) := by
  refine .inr ⟨g, 0, rfl, fun i hi => ?_⟩
  rw [Nat.zero_add]
  unfold zeroAt
  by_cases e : i = k
  · subst e
    rw [if_pos rfl]
    exact cell_near (h i hi) _
  · rw [if_neg e]
    exact cell_by (h i hi) (fun h => e h.symm) _
end Go.Proofs.YtehdemcfeoiecaaDoor
