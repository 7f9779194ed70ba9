/- The regions of Rhe whose condition holds up to a marked operation (an append, a store): what is taken first comes ahead of that one by the region's own edges. -/
import Derived.Test.YtbhndfnfohoidaaRhe
import Derived.OrdersHeld
import Derived.OrdersIn
import Derived.OwnWalkIn
namespace Go.Firn
open Go

section
variable {F : Fence} {n : Nat} {P : Program} {ops : Array Oper} {Q : Exit → Act → World → Prop} {md : Region.Mode} {S : World → Prop}

/-- Whatever order is picked from here on, and S holds behind every operation that is carried out. -/
def wpAnyMIn (F : Fence) (n : Nat) (P : Program) (md : Region.Mode) (ops : Array Oper) (Q : Exit → Act → World → Prop) (S : World → Prop) (m : Nat) : Nat → Array Bool → Act → World → Prop
  | 0, listed, a, w => Region.ready md ops listed = [] ∧ Q .normal a w
  | fuel + 1, listed, a, w =>
    (Region.ready md ops listed = [] → Q .normal a w) ∧
    ∀ i ∈ Region.ready md ops listed, wpOpIn F n P ops Q i (fun a' w' => ((listed.setIfInBounds i true).getD m true = false → S w') ∧ wpAnyMIn F n P md ops Q S m fuel (listed.setIfInBounds i true) a' w') a w
theorem wpAnyIn_of_mark {m : Nat} : ∀ (fuel : Nat) (listed : Array Bool) (a : Act) (w : World), wpAnyMIn F n P md ops Q S m fuel listed a w → wpAnyIn F n P md ops Q fuel listed a w
  | 0, _, _, _, h => h
  | fuel + 1, _, _, _, h => ⟨h.1, fun i hi => wpOpIn_mono (fun a' w' h' => wpAnyIn_of_mark fuel _ a' w' h'.2) (h.2 i hi)⟩

/-- What comes behind number i by the region's own edges. -/
def deps (md : Region.Mode) (ops : Array Oper) (i : Nat) : List Nat := (List.range ops.size).foldl (fun D j => match ops[j]? with | some o => if o.after.any (fun e => Region.binds md e && (e.on == i || D.contains e.on)) then j :: D else D | none => D) []
/-- Number m comes behind number i, and none of those that do is carried out yet. -/
def comesB (md : Region.Mode) (ops : Array Oper) (listed : Array Bool) (m i : Nat) (D : List Nat) : Bool :=
  D.contains m && D.all fun j => !listed.getD j true && j != i && match ops[j]? with | some o => o.after.any (fun e => Region.binds md e && (e.on == i || D.contains e.on)) | none => false
theorem comes_spec {i m : Nat} {listed : Array Bool} {D : List Nat} (h : comesB md ops listed m i D = true) : m ∈ D ∧ (∀ j ∈ D, listed.getD j true = false ∧ j ≠ i) ∧ ∀ j ∈ D, ∃ o, ops[j]? = some o ∧ ∃ e ∈ o.after, Region.binds md e = true ∧ (e.on = i ∨ e.on ∈ D) := by
  unfold comesB at h
  rw [Bool.and_eq_true, List.all_eq_true] at h
  refine ⟨by simpa using h.1, fun j hj => ?_, fun j hj => ?_⟩
  · have := h.2 j hj
    rw [Bool.and_eq_true, Bool.and_eq_true, Bool.not_eq_true', bne_iff_ne] at this
    exact this.1
  · have := h.2 j hj
    rw [Bool.and_eq_true, Bool.and_eq_true] at this
    have := this.2
    cases ho : ops[j]? with
    | none => rw [ho] at this; cases this
    | some o =>
      rw [ho] at this
      obtain ⟨e, he, hb⟩ := Array.any_eq_true'.1 this
      rw [Bool.and_eq_true, Bool.or_eq_true, beq_iff_eq] at hb
      exact ⟨o, rfl, e, he, hb.1, by simpa using hb.2⟩
theorem not_dep {i : Nat} {listed : Array Bool} {D : List Nat} (hd : ∀ j ∈ D, ∃ o, ops[j]? = some o ∧ ∃ e ∈ o.after, Region.binds md e = true ∧ (e.on = i ∨ e.on ∈ D)) (hi : listed.getD i true = false) (hD : ∀ j ∈ D, listed.getD j true = false) : ∀ j ∈ Region.ready md ops listed, j ∉ D := fun j hj hjD => by
  obtain ⟨_, oj, hoj, hall⟩ := mem_ready.1 hj
  obtain ⟨o, ho, e, he, hb, hon⟩ := hd j hjD
  rw [hoj] at ho
  cases ho
  have h1 := hall e he hb
  have h0 : listed.getD e.on true = false := by rcases hon with h | h; rw [h]; exact hi; exact hD _ h
  rcases Nat.lt_or_ge e.on listed.size with h' | h'
  · simp [h'] at h0 h1; rw [h0] at h1; cases h1
  · simp [Array.getElem?_eq_none h'] at h1
theorem wpAnyMIn_first {i m : Nat} {oi : Oper} {v : Value} (hnd : noDeferB ops = true) (hi : ops[i]? = some oi) (hsel : ∀ (j : Nat) (o : Oper) cs b, ops[j]? = some o → o.op ≠ .select cs b)
    (hQ : ∀ c a w, Q (.panic c) (a.put oi.dst v) w → Q (.panic c) a w) {D : List Nat} (hmD : m ∈ D) (hiD : ∀ j ∈ D, j ≠ i) (hd : ∀ j ∈ D, ∃ o, ops[j]? = some o ∧ ∃ e ∈ o.after, Region.binds md e = true ∧ (e.on = i ∨ e.on ∈ D)) :
    ∀ (fuel : Nat) (listed : Array Bool) (a : Act) (w : World),
      (∀ j oj, ops[j]? = some oj → j ≠ i → listed.getD j true = false → (∀ e ∈ oj.after, Region.binds md e = true → e.on ≠ i) → oi.apart ops oj = true) →
      i ∈ Region.ready md ops listed → (∀ j ∈ D, listed.getD j true = false) → YieldsHIn F P ops S oi v a → S w →
      wpAnyMIn F n P md ops Q S m fuel (listed.setIfInBounds i true) (a.put oi.dst v) w → wpAnyMIn F n P md ops Q S m (fuel + 1) listed a w := by
  intro fuel
  induction fuel with
  | zero =>
    intro listed a w _ hr _ hy hS H
    refine ⟨fun h => (by rw [h] at hr; cases hr), fun j hj => ?_⟩
    by_cases hji : j = i
    · subst hji; exact hy.wpOpIn (noDefer_spec hnd hi) hi hS ⟨fun _ => hS, H⟩
    · have := ready_mono hj hji
      rw [H.1] at this
      cases this
  | succ fuel ih =>
    intro listed a w hfree hr hlm hy hS H
    refine ⟨fun h => (by rw [h] at hr; cases hr), fun j hj => ?_⟩
    by_cases hji : j = i
    · subst hji; exact hy.wpOpIn (noDefer_spec hnd hi) hi hS ⟨fun _ => hS, H⟩
    · have h1 := H.2 j (ready_mono hj hji)
      have hjD : j ∉ D := not_dep hd (mem_ready.1 hr).1 hlm j hj
      obtain ⟨hjun, oj, hoj, hall⟩ := mem_ready.1 hj
      have hnot : ∀ e ∈ oj.after, Region.binds md e = true → e.on ≠ i := fun e he hb heq => by
        have h1 := hall e he hb
        have h0 := (mem_ready.1 hr).1
        rw [heq] at h1
        rcases Nat.lt_or_ge i listed.size with h' | h'
        · simp [h'] at h0 h1; rw [h0] at h1; cases h1
        · simp [Array.getElem?_eq_none h'] at h1
      have h2 := wpOpIn_putH (noDefer_spec hnd hoj) hoj (hfree j oj hoj hji hjun hnot) (fun cs b => hsel i oi cs b hi) (fun cs b => hsel j oj cs b hoj) hQ hy h1
      have hfree' : ∀ k ok, ops[k]? = some ok → k ≠ i → (listed.setIfInBounds j true).getD k true = false →
          (∀ e ∈ ok.after, Region.binds md e = true → e.on ≠ i) → oi.apart ops ok = true := fun k ok hk hki hun hno => by
        refine hfree k ok hk hki ?_ hno
        by_cases hjk : j = k
        · subst hjk; exact hjun
        · rw [getD_set_ne true hjk] at hun; exact hun
      have hlm' : ∀ d ∈ D, (listed.setIfInBounds j true).getD d true = false := fun d hdD => by rw [getD_set_ne true (fun (e : j = d) => hjD (by rw [e]; exact hdD))]; exact hlm d hdD
      have hlm2 : ((listed.setIfInBounds i true).setIfInBounds j true).getD m true = false := by rw [getD_set_ne true (fun (e : j = m) => hjD (by rw [e]; exact hmD)), getD_set_ne true (fun e => hiD m hmD e.symm)]; exact hlm m hmD
      refine wpOpIn_mono (fun a' w' h3 => ⟨fun _ => h3.2.1 hlm2, ih (listed.setIfInBounds j true) a' w' hfree' (ready_mono hr (Ne.symm hji)) hlm' h3.1 (h3.2.1 hlm2) ?_⟩) h2
      rw [Array.setIfInBounds_comm _ _ hji]
      exact h3.2.2

/-- Take number i first. -/
theorem wpAnyMIn_take (i : Nat) {m : Nat} {l : List Oper} {oi : Oper} {v : Value} {fuel : Nat} {listed : Array Bool} {a : Act} {w : World} (hi : l[i]? = some oi) (hnd : noDeferB l.toArray = true)
    (hs : Region.noSelect l.toArray = true) (hf : Region.free md l.toArray listed i = true) (hr : (Region.ready md l.toArray listed).contains i = true) (hc : comesB md l.toArray listed m i (deps md l.toArray i) = true)
    (hQ : ∀ c a w, Q (.panic c) (a.put oi.dst v) w → Q (.panic c) a w) (hb : ∀ w f, oi.about P w a.eval = some f → F.fn f) (hw : Region.wanted oi (yielded l.toArray a.tmps) = true) (hy : ∀ w, S w → (execOp a.eval oi).run P w = .ok (.value v) w) (hS : S w)
    (h : wpAnyMIn F n P md l.toArray Q S m fuel (listed.setIfInBounds i true) (a.put oi.dst v) w) : wpAnyMIn F n P md l.toArray Q S m (fuel + 1) listed a w :=
  have hi' : l.toArray[i]? = some oi := by simpa using hi
  wpAnyMIn_first hnd hi' (Region.noSelect_spec hs) hQ (comes_spec hc).1 (fun j hj => ((comes_spec hc).2.1 j hj).2) (comes_spec hc).2.2 fuel listed a w (Region.free_spec hi' hf) (by simpa using hr) (fun j hj => ((comes_spec hc).2.1 j hj).1) ⟨.inl ⟨hw, hy⟩, hb⟩ hS h
/-- Take number i first, which its guard strikes. -/
theorem wpAnyMIn_skip (i : Nat) {m : Nat} {l : List Oper} {oi : Oper} {fuel : Nat} {listed : Array Bool} {a : Act} {w : World} (hi : l[i]? = some oi) (hnd : noDeferB l.toArray = true)
    (hs : Region.noSelect l.toArray = true) (hf : Region.free md l.toArray listed i = true) (hr : (Region.ready md l.toArray listed).contains i = true) (hc : comesB md l.toArray listed m i (deps md l.toArray i) = true)
    (hQ : ∀ c a w, Q (.panic c) (a.put oi.dst undef) w → Q (.panic c) a w) (hb : ∀ w f, oi.about P w a.eval = some f → F.fn f) (hw : Region.wanted oi (yielded l.toArray a.tmps) = false) (hS : S w)
    (h : wpAnyMIn F n P md l.toArray Q S m fuel (listed.setIfInBounds i true) (a.put oi.dst undef) w) : wpAnyMIn F n P md l.toArray Q S m (fuel + 1) listed a w :=
  have hi' : l.toArray[i]? = some oi := by simpa using hi
  wpAnyMIn_first hnd hi' (Region.noSelect_spec hs) hQ (comes_spec hc).1 (fun j hj => ((comes_spec hc).2.1 j hj).2) (comes_spec hc).2.2 fuel listed a w (Region.free_spec hi' hf) (by simpa using hr) (fun j hj => ((comes_spec hc).2.1 j hj).1) ⟨.inr ⟨hw, rfl⟩, hb⟩ hS h

/-- Each of the operations rs comes up next; behind it S holds, and the rest goes in whatever order. -/
def AllMIn (F : Fence) (n : Nat) (P : Program) (md : Region.Mode) (ops : Array Oper) (Q : Exit → Act → World → Prop) (S : World → Prop) (m : Nat) (fuel : Nat) (listed : Array Bool) (a : Act) (w : World) (rs : List Nat) : Prop :=
  ∀ i ∈ rs, wpOpIn F n P ops Q i (fun a' w' => ((listed.setIfInBounds i true).getD m true = false → S w') ∧ wpAnyMIn F n P md ops Q S m fuel (listed.setIfInBounds i true) a' w') a w
theorem AllMIn.nil {m fuel : Nat} {listed : Array Bool} {a : Act} {w : World} : AllMIn F n P md ops Q S m fuel listed a w [] := fun _ h => by cases h
theorem AllMIn.cons {m fuel : Nat} {listed : Array Bool} {a : Act} {w : World} {i : Nat} {l : List Oper} {o : Oper} {rs : List Nat} (ho : l[i]? = some o) (hw : Region.wanted o (yielded l.toArray a.tmps) = true)
    (h : ∀ K' : Act → World → Prop, Lid (∀ a w, ((listed.setIfInBounds i true).getD m true = false → S w) → wpAnyMIn F n P md l.toArray Q S m fuel (listed.setIfInBounds i true) a w → K' a w) → Oper.wpIn F n P o a w K' Q)
    (hs : AllMIn F n P md l.toArray Q S m fuel listed a w rs) : AllMIn F n P md l.toArray Q S m fuel listed a w (i :: rs) := fun j hj => by
  rcases List.mem_cons.1 hj with rfl | hj
  · refine wpOpIn_step (show l.toArray[_]? = some o by simpa using ho) fun K' hK => ?_
    rw [if_pos hw]
    exact h K' (fun a w hS hW => hK a w ⟨hS, hW⟩)
  · exact hs j hj
theorem wpAnyMIn_ready (rs : List Nat) {m fuel : Nat} {listed : Array Bool} {a : Act} {w : World} (hr : Region.ready md ops listed = rs) (hne : rs ≠ [])
    (h : AllMIn F n P md ops Q S m fuel listed a w rs) : wpAnyMIn F n P md ops Q S m (fuel + 1) listed a w := ⟨fun h0 => absurd (hr ▸ h0) hne, hr ▸ h⟩
theorem wpAnyMIn_done {m : Nat} {listed : Array Bool} {a : Act} {w : World} (hr : Region.ready md ops listed = []) (h : Q .normal a w) :
    ∀ fuel, wpAnyMIn F n P md ops Q S m fuel listed a w
  | 0 => ⟨hr, h⟩
  | _ + 1 => ⟨fun _ => h, by rw [hr]; simp⟩
theorem wpIn_region_mark (S : World → Prop) (m k : Nat) {listed : List Bool} {id : Nat} {a : Act} {w : World} (hm : P.follows .mixedOrders = true) (hk : ops.size = k) (hl : List.replicate k false = listed)
    (h : wpAnyMIn F n P .any ops Q S m k listed.toArray a w.drew) : (Code.region id ops true).wpIn F n P Q a w :=
  wpIn_region_any hm (wpAnyIn_of_mark _ _ _ _ (by subst hk; subst hl; rw [List.toArray_replicate] at h; exact h))
end

end Go.Firn
