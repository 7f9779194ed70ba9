/- A region inside a fence that draws its order: operations that only read, and behind them ones whose order is forced: one walk of the text's order serves. -/
import Derived.Sort.BigQuietIn
import Derived.BigRegionIn
import Derived.StillTail
namespace Go.Firn
open Go

section
variable {F : Fence} {n : Nat} {P : Program} {md : Region.Mode} {ops : Array Oper} {Q : Exit → Act → World → Prop} {C : World → Prop}

/-- Fuel to spare does no harm. -/
theorem wpAnyIn_more : ∀ (fuel : Nat) (listed : Array Bool) (a : Act) (w : World), wpAnyIn F n P md ops Q fuel listed a w → wpAnyIn F n P md ops Q (fuel + 1) listed a w
  | 0, _, _, _, h => ⟨fun _ => h.2, fun i hi => by rw [h.1] at hi; cases hi⟩
  | fuel + 1, _, _, _, h => ⟨h.1, fun i hi => wpOpIn_mono (fun a' w' => wpAnyIn_more fuel _ a' w') (h.2 i hi)⟩
theorem wpAnyIn_plus {k : Nat} {listed : Array Bool} {a : Act} {w : World} (h : wpAnyIn F n P md ops Q k listed a w) : ∀ d, wpAnyIn F n P md ops Q (d + k) listed a w
  | 0 => by rw [Nat.zero_add]; exact h
  | d + 1 => by rw [show d + 1 + k = (d + k) + 1 by omega]; exact wpAnyIn_more _ _ _ _ (wpAnyIn_plus h d)

/-- What the first nh operations wait for, and are guarded by, comes ahead of them; each but the last one is waited for by a later one of them; whatever comes behind waits for the last one of them, or for one behind. -/
structure Parted (md : Region.Mode) (nh : Nat) (l : List Oper) : Prop where
  down : ∀ i o, i < nh → l[i]? = some o → (∀ e ∈ o.after, Region.binds md e = true → e.on < i) ∧ ∀ g, o.guard = some g → g.1 < i
  sink : ∀ i, i + 1 < nh → ∃ j o, i < j ∧ j < nh ∧ l[j]? = some o ∧ ∃ e ∈ o.after, Region.binds md e = true ∧ e.on = i
  tail : ∀ t o, nh ≤ t → l[t]? = some o → ∃ e ∈ o.after, Region.binds md e = true ∧ nh ≤ e.on + 1
def partedB (md : Region.Mode) (nh : Nat) (l : List Oper) : Bool :=
  ((List.range l.length).all fun i => match l[i]? with
    | none => true
    | some o => if i < nh then (o.after.all fun e => !Region.binds md e || decide (e.on < i)) && (match o.guard with | none => true | some g => decide (g.1 < i))
        else o.after.any fun e => Region.binds md e && decide (nh ≤ e.on + 1)) &&
  (List.range (nh - 1)).all fun i => (List.range nh).any fun j => decide (i < j) && match l[j]? with
    | none => false
    | some o => o.after.any fun e => Region.binds md e && e.on == i
theorem partedB_spec {nh : Nat} {l : List Oper} (h : partedB md nh l = true) : Parted md nh l := by
  unfold partedB at h
  rw [Bool.and_eq_true, List.all_eq_true, List.all_eq_true] at h
  obtain ⟨h1, h2⟩ := h
  refine ⟨fun i o hi ho => ?_, fun i hi => ?_, fun t o ht ho => ?_⟩
  · have hl : i < l.length := (List.getElem?_eq_some_iff.1 ho).1
    have := h1 i (List.mem_range.2 hl)
    simp only [ho, if_pos hi, Bool.and_eq_true] at this
    refine ⟨fun e he hb => ?_, fun g hg => ?_⟩
    · have := Array.all_eq_true'.1 this.1 e he
      simpa [hb] using this
    · have := this.2
      rw [hg] at this
      simpa using this
  · have := h2 i (List.mem_range.2 (by omega))
    rw [List.any_eq_true] at this
    obtain ⟨j, hj, hh⟩ := this
    rw [Bool.and_eq_true, decide_eq_true_eq] at hh
    obtain ⟨hij, hh⟩ := hh
    cases ho : l[j]? with
    | none => rw [ho] at hh; cases hh
    | some o =>
      rw [ho] at hh
      obtain ⟨e, he, hb⟩ := Array.any_eq_true'.1 hh
      rw [Bool.and_eq_true, beq_iff_eq] at hb
      exact ⟨j, o, hij, List.mem_range.1 hj, ho, e, he, hb.1, hb.2⟩
  · have hl : t < l.length := (List.getElem?_eq_some_iff.1 ho).1
    have := h1 t (List.mem_range.2 hl)
    simp only [ho, if_neg (show ¬ t < nh by omega)] at this
    obtain ⟨e, he, hb⟩ := Array.any_eq_true'.1 this
    rw [Bool.and_eq_true, decide_eq_true_eq] at hb
    exact ⟨e, he, hb.1, hb.2⟩

/-- The state of the first part. -/
structure Hd (md : Region.Mode) (nh : Nat) (l : List Oper) (listed : Array Bool) : Prop where
  size : listed.size = l.length
  rest : ∀ t, nh ≤ t → t < l.length → listed.getD t true = false
  shut : ∀ i o, i < nh → l[i]? = some o → listed.getD i false = true → ∀ e ∈ o.after, Region.binds md e = true → listed.getD e.on false = true
theorem getD_two {listed : Array Bool} {i : Nat} (h : i < listed.size) : listed.getD i true = listed.getD i false := by simp [h]
theorem Hd.unready {nh : Nat} {l : List Oper} {listed : Array Bool} (hp : Parted md nh l) (h : Hd md nh l listed) {i0 : Nat} (hi : i0 < nh) (hu : listed.getD i0 false = false) {t : Nat} (ht : nh ≤ t) : t ∉ Region.ready md l.toArray listed := by
  intro hr
  obtain ⟨_, o, ho, hall⟩ := mem_ready.1 hr
  simp at ho
  obtain ⟨e, he, hb, hge⟩ := hp.tail t o ht ho
  have hl := hall e he hb
  have hlast : listed.getD (nh - 1) false = true := by
    rcases Nat.lt_or_ge e.on nh with h1 | h1
    · rw [show nh - 1 = e.on by omega]; exact hl
    · rcases Nat.lt_or_ge e.on l.length with h2 | h2
      · have := h.rest _ h1 h2
        rw [getD_two (by rw [h.size]; exact h2), hl] at this
        cases this
      · have : listed.getD e.on false = false := by simp [Array.getElem?_eq_none (by rw [h.size]; exact h2)]
        rw [hl] at this; cases this
  have all : ∀ d i, i + d + 1 = nh → listed.getD i false = true := by
    intro d
    induction d using Nat.strongRecOn with
    | _ d ih =>
      intro i hid
      cases d with
      | zero => rw [show i = nh - 1 by omega]; exact hlast
      | succ d =>
        obtain ⟨j, oj, hij, hj, hoj, e', he', hb', hon⟩ := hp.sink i (by omega)
        have := h.shut j oj hj hoj (ih (nh - 1 - j) (by omega) j (by omega)) e' he' hb'
        rwa [hon] at this
  have := all (nh - 1 - i0) i0 (by omega)
  rw [hu] at this
  cases this
theorem Hd.full {nh : Nat} {l : List Oper} {listed : Array Bool} (hp : Parted md nh l) (h : Hd md nh l listed) (hn : nh ≤ l.length) (hr : Region.ready md (l.take nh).toArray listed = []) : ∀ i, i < nh → listed.getD i false = true := by
  intro i
  induction i using Nat.strongRecOn with
  | _ i ih =>
    intro hi
    have ho : l[i]? = some l[i] := List.getElem?_eq_getElem (by omega)
    cases hl : listed.getD i false with
    | true => rfl
    | false =>
      have : i ∈ Region.ready md (l.take nh).toArray listed := by
        refine mem_ready.2 ⟨by rw [getD_two (by rw [h.size]; omega)]; exact hl, l[i], by simp [hi, ho], fun e he hb => ?_⟩
        have := (hp.down i _ hi ho).1 e he hb
        exact ih _ this (by omega)
      rw [hr] at this; cases this
theorem Hd.set {nh : Nat} {l : List Oper} {listed : Array Bool} (h : Hd md nh l listed) {i : Nat} (hi : i < nh) (hr : i ∈ Region.ready md (l.take nh).toArray listed) : Hd md nh l (listed.setIfInBounds i true) := by
  obtain ⟨_, oi, hoi, hall⟩ := mem_ready.1 hr
  refine ⟨by simp [h.size], fun t ht hl => by rw [getD_set_ne true (by omega)]; exact h.rest t ht hl, fun j o hj ho hl e he hb => ?_⟩
  by_cases hij : i = j
  · subst hij
    have : o = oi := by simp [hi] at hoi; exact Option.some.inj (ho.symm.trans hoi)
    subst this
    exact getD_set_true (hall e he hb)
  · rw [getD_set_ne false hij] at hl
    exact getD_set_true (h.shut j o hj ho hl e he hb)

/-- The state behind the first part. -/
def heads (nh : Nat) (l : List Oper) : Array Bool := (List.replicate nh true ++ List.replicate (l.length - nh) false).toArray
theorem Hd.heads {nh : Nat} {l : List Oper} {listed : Array Bool} (h : Hd md nh l listed) (hn : nh ≤ l.length) (hf : ∀ i, i < nh → listed.getD i false = true) : listed = heads nh l := by
  apply Array.ext
  · rw [h.size]; simp [Firn.heads]; omega
  · intro i h1 h2
    have hi : i < l.length := by rw [← h.size]; exact h1
    by_cases hlt : i < nh
    · have := hf i hlt
      simp [h1] at this
      simp [Firn.heads, hlt, this]
    · have := h.rest i (by omega) hi
      simp [h1] at this
      simp [Firn.heads, List.getElem_append, hlt, this]

theorem wpAny_heads {nh k : Nat} {l : List Oper} (hro : F.round = none) (hp : Parted md nh l) (hn : nh ≤ l.length) {Qh : Act → Prop}
    (hQ : ∀ a w, C w → Qh a → wpAnyIn F n P md l.toArray Q k (heads nh l) a w) : ∀ (fuel : Nat) (listed : Array Bool) (a : Act) (w : World), C w → Hd md nh l listed →
    wpAnyQIn F n P md (l.take nh).toArray C Qh fuel listed a → wpAnyIn F n P md l.toArray Q (fuel + k) listed a w := by
  intro fuel
  induction fuel with
  | zero =>
    intro listed a w hC hH h
    rw [hH.heads hn (hH.full hp hn h.1)]
    exact wpAnyIn_plus (hQ a w hC h.2) 0
  | succ fuel ih =>
    intro listed a w hC hH h
    by_cases hr : Region.ready md (l.take nh).toArray listed = []
    · rw [hH.heads hn (hH.full hp hn hr)]
      exact wpAnyIn_plus (hQ a w hC (h.1 hr)) (fuel + 1)
    · obtain ⟨i0, hi0⟩ : ∃ i0, i0 ∈ Region.ready md (l.take nh).toArray listed := List.exists_mem_of_ne_nil _ hr
      have sub : ∀ i, i < nh → (i ∈ Region.ready md (l.take nh).toArray listed ↔ i ∈ Region.ready md l.toArray listed) := fun i hi => by
        rw [mem_ready, mem_ready]
        simp [hi]
      have lt0 : i0 < nh := by
        obtain ⟨_, o, ho, _⟩ := mem_ready.1 hi0
        have := (Array.getElem?_eq_some_iff.1 ho).1
        simp at this
        omega
      have un0 : listed.getD i0 false = false := by
        have := (mem_ready.1 hi0).1
        rwa [getD_two (by rw [hH.size]; omega)] at this
      rw [show fuel + 1 + k = (fuel + k) + 1 by omega]
      refine ⟨fun h0 => ?_, fun i hi => ?_⟩
      · have := (sub i0 lt0).1 hi0
        rw [h0] at this; cases this
      · have hi' : i < nh := by
          refine Nat.lt_of_not_le fun h1 => ?_
          exact hH.unready hp lt0 un0 h1 hi
        have hr' := (sub i hi').2 hi
        have step := wpOpIn_of_qOpIn (Q' := Q) hro hC (fun a' w' hC' (hK : wpAnyQIn F n P md (l.take nh).toArray C Qh fuel (listed.setIfInBounds i true) a') => ih (listed.setIfInBounds i true) a' w' hC' (hH.set hi' hr') hK) (h.2 i hr')
        have ho : l[i]? = some l[i] := List.getElem?_eq_getElem (by omega)
        have ho' : (l.take nh).toArray[i]? = some l[i] := by simp [hi', ho]
        have ho2 : l.toArray[i]? = some l[i] := by simp [ho]
        have hg : Region.wanted l[i] (yielded (l.take nh).toArray a.tmps) = Region.wanted l[i] (yielded l.toArray a.tmps) := by
          unfold Region.wanted
          cases hgd : l[i].guard with
          | none => rfl
          | some g =>
            have hlt := (hp.down i _ hi' ho).2 g hgd
            have : yielded (l.take nh).toArray a.tmps g.1 = yielded l.toArray a.tmps g.1 := by
              unfold yielded
              have : (l.take nh).toArray[g.1]? = l.toArray[g.1]? := by simp [show g.1 < nh by omega]
              rw [this]
            obtain ⟨g1, g2⟩ := g
            simp only at this ⊢
            rw [this]
        unfold wpOpIn at step ⊢
        rw [ho'] at step
        rw [ho2]
        simp only at step ⊢
        rw [← hg]
        exact step

/-- Whether what is left comes up in the text's order and in no other, but for moves. -/
def isMove (ops : Array Oper) (k : Nat) : Bool := match ops[k]? with
  | some o => match o.op with
    | .move _ => true
    | _ => false
  | none => false
def lexT (md : Region.Mode) (ops : Array Oper) : Nat → Nat → Array Bool → Bool
  | 0, _, listed => (Region.ready md ops listed).isEmpty
  | f + 1, k, listed => (Region.ready md ops listed == [k] || ((Region.ready md ops listed).contains k && Region.free md ops listed k && isMove ops k)) && lexT md ops f (k + 1) (listed.setIfInBounds k true)

theorem about_move {o : Oper} {x : Operand} (hx : o.op = .move x) (a : Act) (w : World) : o.about P w a.eval = none := by
  unfold Oper.about; rw [hx]

theorem wpAny_tail (hro : F.round = none) (hs : Region.noSelect ops = true) (hQp : ∀ c (d : Tmp) v a w, Q (.panic c) (Act.put a (some d) v) w → Q (.panic c) a w) : ∀ (l : List Oper) (k : Nat) (listed : Array Bool) (a : Act) (w : World), (∀ j, l[j]? = ops[k + j]?) →
    lexT md ops l.length k listed = true → wpListIn F n P ops Q l a w → wpAnyIn F n P md ops Q l.length listed a w
  | [], _, _, _, _, _, hB, h => ⟨by simpa [lexT] using hB, h⟩
  | o :: l, k, listed, a, w, hl, hB, h => by
    have h0 : ops[k]? = some o := by simpa using (hl 0).symm
    have hnext : ∀ j, l[j]? = ops[k + 1 + j]? := fun j => by have := hl (j + 1); simpa [Nat.add_assoc, Nat.add_comm 1 j] using this
    simp only [List.length_cons, lexT, Bool.and_eq_true, Bool.or_eq_true] at hB
    obtain ⟨hB1, hB2⟩ := hB
    have hQo : ∀ c v a w, Q (.panic c) (Act.put a o.dst v) w → Q (.panic c) a w := fun c v a w h => by
      cases hd : o.dst with
      | none => rw [hd] at h; exact h
      | some d => rw [hd] at h; exact hQp c d v a w h
    have next := fun a' w' => wpAny_tail hro hs hQp l (k + 1) (listed.setIfInBounds k true) a' w' hnext hB2
    rcases hB1 with hB1 | ⟨⟨hr, hf⟩, hmv⟩
    · have hrd : Region.ready md ops listed = [k] := by simpa using hB1
      refine ⟨fun h => (by rw [hrd] at h; cases h), fun i hi => ?_⟩
      rw [hrd] at hi
      obtain rfl := List.mem_singleton.1 hi
      unfold wpOpIn
      rw [h0]
      simp only
      unfold wpListIn at h
      split
      · rename_i hw
        rw [if_pos hw] at h
        exact Oper.wpIn_mono next h
      · rename_i hw
        rw [if_neg hw] at h
        exact ⟨h.1, next _ _ h.2⟩
    · obtain ⟨x, hx⟩ : ∃ x, o.op = .move x := by
        unfold isMove at hmv
        rw [h0] at hmv
        simp only at hmv
        cases ho : o.op <;> rw [ho] at hmv <;> first | exact ⟨_, rfl⟩ | cases hmv
      unfold wpListIn at h
      by_cases hw : Region.wanted o (yielded ops a.tmps) = true
      · rw [if_pos hw] at h
        have h2 := h.2
        rw [hro, Oper.semAt_none, BigFrame.run_move x hx] at h2
        exact wpAnyIn_take hro h0 hs hf hr (fun c a w => hQo c _ a w) ⟨.inl ⟨hw, fun w => BigFrame.run_move x hx w⟩, fun w => about_move hx a w⟩ (next _ _ h2)
      · rw [if_neg hw] at h
        exact wpAnyIn_take hro h0 hs hf hr (fun c a w => hQo c _ a w) ⟨.inr ⟨by simpa using hw, rfl⟩, fun w => about_move hx a w⟩ (next _ _ h.2)

/-- One walk of the text's order serves. -/
theorem wpIn_region_parts (nh : Nat) {id : Nat} {a : Act} {w : World} {l : List Oper} (hro : F.round = none) (hm : P.follows .mixedOrders = true)
    (hB : (decide (nh ≤ l.length) && partedB .any nh l && Region.noSelect l.toArray && Region.noSelect (l.take nh).toArray && Region.lexFrom .any (l.take nh).toArray nh 0 (Array.replicate l.length false) && lexT .any l.toArray (l.length - nh) nh (heads nh l)) = true)
    (hQp : ∀ c (d : Tmp) v a w, Q (.panic c) (Act.put a (some d) v) w → Q (.panic c) a w)
    (h : wpQuietIn F n P (l.take nh).toArray (fun w' => ∃ k, w' = w.drewN k) (fun a' => ∀ w', (∃ k, w' = w.drewN k) → wpListIn F n P l.toArray Q (l.drop nh) a' w') (l.take nh) a) : (Code.region id l.toArray true).wpIn F n P Q a w := by
  simp only [Bool.and_eq_true, decide_eq_true_eq] at hB
  obtain ⟨⟨⟨⟨⟨hn, hp⟩, hs⟩, hs'⟩, hL⟩, hT⟩ := hB
  refine wpIn_region_any hm ?_
  have hlen : (l.take nh).length = nh := by simp; omega
  have q := wpAnyQIn_lex (F := F) (n := n) (P := P) (C := fun w' => ∃ k, w' = w.drewN k) (md := .any) hs' (l.take nh) 0 (Array.replicate l.length false) a (by simp) (by rw [hlen]; exact hL) h
  rw [hlen] at q
  have hd : Hd .any nh l (Array.replicate l.length false) := ⟨by simp, fun t _ hl => by simp [hl], fun i o _ ho hl => by
    have := (List.getElem?_eq_some_iff.1 ho).1
    simp [this] at hl⟩
  have := wpAny_heads (F := F) (n := n) (P := P) (Q := Q) (k := l.length - nh) hro (partedB_spec hp) hn (fun a' w' hC hq => by
    have e : (l.drop nh).length = l.length - nh := by simp
    have := wpAny_tail (F := F) (n := n) (P := P) (md := .any) (ops := l.toArray) (Q := Q) hro hs hQp (l.drop nh) nh (heads nh l) a' w' (by simp) (by rw [e]; exact hT) (hq w' hC)
    rwa [e] at this) nh _ a { w with drawn := w.drawn + 1 } ⟨1, rfl⟩ hd q
  rw [show nh + (l.length - nh) = l.toArray.size by simp; omega] at this
  simpa using this

end
end Go.Firn
