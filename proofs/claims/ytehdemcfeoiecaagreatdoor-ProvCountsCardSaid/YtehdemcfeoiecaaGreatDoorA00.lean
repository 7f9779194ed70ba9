import Derived.OrdersHeld
import Derived.OrdersIn
import Derived.OwnWalkIn
import Derived.WalkKit
import Derived.WalkSpells
import Derived.WalkLawsBesides
import Derived.Lib.Hide
import Derived.Laws.Entries
import Derived.KernelRfl
set_option maxHeartbeats 64000000
set_option maxRecDepth 100000
namespace Go.Firn
open Go
section
variable {F : Fence} {n : Nat} {P : Program} {ops : Array Oper} {Q : Exit → Act → World → Prop} {md : Region.Mode} {S : World → Prop}
def noDeferB (ops : Array Oper) : Bool := ops.all fun o => match o.op with | .defer _ => false | _ => true
theorem noDefer_spec (h : noDeferB ops = true) {j : Nat} {o : Oper} (ho : ops[j]? = some o) (c : _) : o.op ≠ .defer c := fun e => by
 have := Array.all_eq_true'.1 h o (Array.mem_of_getElem? ho)
 rw [e] at this
 cases this
def YieldsHIn (F : Fence) (P : Program) (ops : Array Oper) (S : World → Prop) (o : Oper) (v : Value) (a : Act) : Prop :=
 YieldsIf P ops S o v a ∧ ∀ w f, o.about P w a.eval = some f → F.fn f
theorem YieldsHIn.wpOpIn {i : Nat} {o : Oper} {v : Value} {a : Act} (hnd : ∀ c, o.op ≠ .defer c) (hi : ops[i]? = some o) (hy : YieldsHIn F P ops S o v a)
  {K : Act → World → Prop} {w : World} (hS : S w) (h : K (a.put o.dst v) w) : wpOpIn F n P ops Q i K a w := by
 unfold Go.wpOpIn
 simp only [hi]
 rcases hy.1 with ⟨hw, hv⟩ | ⟨hw, rfl⟩
 ·simp only [hw, if_true, Oper.wpIn, Oper.semAt_plain F _ _ hnd, hv w hS, Oper.uponIn]; exact ⟨hy.2 w, h⟩
 simp only [hw, Bool.false_eq_true, if_false]; exact ⟨hy.2 w, h⟩
theorem YieldsHIn.of_same {o : Oper} {v : Value} {a a' : Act} (hy : YieldsHIn F P ops S o v a) (he : execOp a'.eval o = execOp a.eval o)
  (hw : Region.wanted o (yielded ops a'.tmps) = Region.wanted o (yielded ops a.tmps)) (hb : ∀ w, o.about P w a'.eval = o.about P w a.eval) : YieldsHIn F P ops S o v a' :=
 ⟨hy.1.of_same he hw, fun w f hf => hy.2 w f (by rw [← hb w]; exact hf)⟩
theorem wpOpIn_putH {j : Nat} {oi oj : Oper} {v : Value} (hnd : ∀ c, oj.op ≠ .defer c) (hj : ops[j]? = some oj) (hap : oi.apart ops oj = true)
  (hsi : ∀ cs b, oi.op ≠ .select cs b) (hsj : ∀ cs b, oj.op ≠ .select cs b)
  (hQ : ∀ c a w, Q (.panic c) (a.put oi.dst v) w → Q (.panic c) a w) {K : Act → World → Prop} {a : Act} {w : World}
  (hy : YieldsHIn F P ops S oi v a) (h : wpOpIn F n P ops Q j K (a.put oi.dst v) w) :
  wpOpIn F n P ops Q j (fun a' w' => YieldsHIn F P ops S oi v a' ∧ K (a'.put oi.dst v) w') a w := by
 obtain ⟨h1, h2, h3⟩ := Oper.apart_spec hap
 have keep : ∀ (a : Act), YieldsHIn F P ops S oi v a → ∀ u, YieldsHIn F P ops S oi v (a.put oj.dst u) := fun a hy u =>
  hy.of_same (execOp_put oi hsi a oj.dst u h3) (wanted_put oi a oj.dst u h3) (fun w => about_put oi w a oj.dst u h3)
 have keepD : ∀ d, YieldsHIn F P ops S oi v { a with defers := d :: a.defers } := fun d => hy.of_same rfl rfl (fun _ => rfl)
 unfold wpOpIn at *
 simp only [hj] at *
 rw [wanted_put oj a oi.dst v h1, about_put oj w a oi.dst v h1] at h
 split
 ·rename_i hw
  simp only [hw, if_true] at h
  unfold Oper.wpIn at *
  rw [about_put oj w a oi.dst v h1] at h
  refine ⟨h.1, ?_⟩
  have h := h.2
  rw [Oper.semAt_plain F _ _ hnd, execOp_put oj hsj a oi.dst v h1] at h
  rw [Oper.semAt_plain F _ _ hnd]
  generalize (execOp a.eval oj).run P w = r at *
  cases r with
  | ok x w' =>
   cases x <;> simp only [Oper.uponIn] at h ⊢
   case value u => exact ⟨keep a hy u, by rw [← Act.put_comm a v u h2]; exact h⟩
   case skip => exact ⟨keep a hy _, by rw [← Act.put_comm a v undef h2]; exact h⟩
   case defer d =>
    refine ⟨keep _ (keepD d) _, ?_⟩
    rw [← Act.put_comm _ v undef h2, ← Act.put_defers]
    exact h
   case enter f args =>
    refine ⟨h.1, CallsIn.mono h.2 fun e w'' he => ?_⟩
    cases e with
    | returned u => exact ⟨keep a hy u, by rw [← Act.put_comm a v u h2]; exact he⟩
    | panicked c => exact hQ _ _ _ he
    | outgrown => exact he
   case row row args => exact ⟨h.1, RowsIn.mono h.2 fun u w'' he => ⟨keep a hy u, by rw [← Act.put_comm a v u h2]; exact he⟩⟩
   case round l f tmps assign body =>
    refine ⟨h.1, RoundIn.mono h.2 fun e w'' he => ?_⟩
    cases e with
    | returned u => exact ⟨keep a hy u, by rw [← Act.put_comm a v u h2]; exact he⟩
    | panicked c => exact hQ _ _ _ he
    | outgrown => exact he
  | halt x w' =>
   cases x <;> simp only [Oper.uponIn] at h ⊢
   case panic u => exact hQ _ _ _ h
 rename_i hw
 simp only [hw] at h
 exact ⟨h.1, keep a hy _, by rw [← Act.put_comm a v undef h2]; exact h.2⟩
def wpAnyHIn (F : Fence) (n : Nat) (P : Program) (md : Region.Mode) (ops : Array Oper) (Q : Exit → Act → World → Prop) (S : World → Prop) : Nat → Array Bool → Act → World → Prop
 | 0, listed, a, w => Region.ready md ops listed = [] ∧ Q .normal a w
 | fuel + 1, listed, a, w =>
  (Region.ready md ops listed = [] → Q .normal a w) ∧
  ∀ i ∈ Region.ready md ops listed, wpOpIn F n P ops Q i (fun a' w' => S w' ∧ wpAnyHIn F n P md ops Q S fuel (listed.setIfInBounds i true) a' w') a w
theorem wpAnyIn_of_held : ∀ (fuel : Nat) (listed : Array Bool) (a : Act) (w : World), wpAnyHIn F n P md ops Q S fuel listed a w → wpAnyIn F n P md ops Q fuel listed a w
 | 0, _, _, _, h => h
 | fuel + 1, _, _, _, h => ⟨h.1, fun i hi => wpOpIn_mono (fun a' w' h' => wpAnyIn_of_held fuel _ a' w' h'.2) (h.2 i hi)⟩
theorem wpAnyHIn_first {i : Nat} {oi : Oper} {v : Value} (hnd : noDeferB ops = true) (hi : ops[i]? = some oi) (hsel : ∀ (j : Nat) (o : Oper) cs b, ops[j]? = some o → o.op ≠ .select cs b)
  (hQ : ∀ c a w, Q (.panic c) (a.put oi.dst v) w → Q (.panic c) a w) :
  ∀ (fuel : Nat) (listed : Array Bool) (a : Act) (w : World),
   (∀ j oj, ops[j]? = some oj → j ≠ i → listed.getD j true = false → (∀ e ∈ oj.after, Region.binds md e = true → e.on ≠ i) → oi.apart ops oj = true) →
   i ∈ Region.ready md ops listed → YieldsHIn F P ops S oi v a → S w →
   wpAnyHIn F n P md ops Q S fuel (listed.setIfInBounds i true) (a.put oi.dst v) w → wpAnyHIn F n P md ops Q S (fuel + 1) listed a w := by
 intro fuel
 induction fuel with
 | zero =>
  intro listed a w _ hr hy hS H
  refine ⟨fun h => (by rw [h] at hr; cases hr), fun j hj => ?_⟩
  by_cases hji : j = i
  ·subst hji; exact hy.wpOpIn (noDefer_spec hnd hi) hi hS ⟨hS, H⟩
  have := ready_mono hj hji
  rw [H.1] at this
  cases this
 | succ fuel ih =>
  intro listed a w hfree hr hy hS H
  refine ⟨fun h => (by rw [h] at hr; cases hr), fun j hj => ?_⟩
  by_cases hji : j = i
  ·subst hji; exact hy.wpOpIn (noDefer_spec hnd hi) hi hS ⟨hS, H⟩
  have h1 := H.2 j (ready_mono hj hji)
  obtain ⟨hjun, oj, hoj, hall⟩ := mem_ready.1 hj
  have hnot : ∀ e ∈ oj.after, Region.binds md e = true → e.on ≠ i := fun e he hb heq => by
   have h1 := hall e he hb
   have h0 := (mem_ready.1 hr).1
   rw [heq] at h1
   rcases Nat.lt_or_ge i listed.size with h' | h'
   ·simp [h'] at h0 h1; rw [h0] at h1; cases h1
   simp [Array.getElem?_eq_none h'] at h1
  have h2 := wpOpIn_putH (noDefer_spec hnd hoj) hoj (hfree j oj hoj hji hjun hnot) (fun cs b => hsel i oi cs b hi) (fun cs b => hsel j oj cs b hoj) hQ hy h1
  have hfree' : ∀ k ok, ops[k]? = some ok → k ≠ i → (listed.setIfInBounds j true).getD k true = false →
    (∀ e ∈ ok.after, Region.binds md e = true → e.on ≠ i) → oi.apart ops ok = true := fun k ok hk hki hun hno => by
   refine hfree k ok hk hki ?_ hno
   by_cases hjk : j = k
   ·subst hjk; exact hjun
   rw [getD_set_ne true hjk] at hun; exact hun
  refine wpOpIn_mono (fun a' w' h3 => ⟨h3.2.1, ih (listed.setIfInBounds j true) a' w' hfree' (ready_mono hr (Ne.symm hji)) h3.1 h3.2.1 ?_⟩) h2
  rw [Array.setIfInBounds_comm _ _ hji]
  exact h3.2.2
theorem wpAnyHIn_take (i : Nat) {l : List Oper} {oi : Oper} {v : Value} {fuel : Nat} {listed : Array Bool} {a : Act} {w : World} (hi : l[i]? = some oi) (hnd : noDeferB l.toArray = true)
  (hs : Region.noSelect l.toArray = true) (hf : Region.free md l.toArray listed i = true) (hr : (Region.ready md l.toArray listed).contains i = true)
  (hQ : ∀ c a w, Q (.panic c) (a.put oi.dst v) w → Q (.panic c) a w) (hb : ∀ w f, oi.about P w a.eval = some f → F.fn f) (hw : Region.wanted oi (yielded l.toArray a.tmps) = true) (hy : ∀ w, S w → (execOp a.eval oi).run P w = .ok (.value v) w) (hS : S w)
  (h : wpAnyHIn F n P md l.toArray Q S fuel (listed.setIfInBounds i true) (a.put oi.dst v) w) : wpAnyHIn F n P md l.toArray Q S (fuel + 1) listed a w :=
 have hi' : l.toArray[i]? = some oi := by simpa using hi
 wpAnyHIn_first hnd hi' (Region.noSelect_spec hs) hQ fuel listed a w (Region.free_spec hi' hf) (by simpa using hr) ⟨.inl ⟨hw, hy⟩, hb⟩ hS h
theorem wpAnyHIn_skip (i : Nat) {l : List Oper} {oi : Oper} {fuel : Nat} {listed : Array Bool} {a : Act} {w : World} (hi : l[i]? = some oi) (hnd : noDeferB l.toArray = true)
  (hs : Region.noSelect l.toArray = true) (hf : Region.free md l.toArray listed i = true) (hr : (Region.ready md l.toArray listed).contains i = true)
  (hQ : ∀ c a w, Q (.panic c) (a.put oi.dst undef) w → Q (.panic c) a w) (hb : ∀ w f, oi.about P w a.eval = some f → F.fn f) (hw : Region.wanted oi (yielded l.toArray a.tmps) = false) (hS : S w)
  (h : wpAnyHIn F n P md l.toArray Q S fuel (listed.setIfInBounds i true) (a.put oi.dst undef) w) : wpAnyHIn F n P md l.toArray Q S (fuel + 1) listed a w :=
 have hi' : l.toArray[i]? = some oi := by simpa using hi
 wpAnyHIn_first hnd hi' (Region.noSelect_spec hs) hQ fuel listed a w (Region.free_spec hi' hf) (by simpa using hr) ⟨.inr ⟨hw, rfl⟩, hb⟩ hS h
def AllHIn (F : Fence) (n : Nat) (P : Program) (md : Region.Mode) (ops : Array Oper) (Q : Exit → Act → World → Prop) (S : World → Prop) (fuel : Nat) (listed : Array Bool) (a : Act) (w : World) (rs : List Nat) : Prop :=
 ∀ i ∈ rs, wpOpIn F n P ops Q i (fun a' w' => S w' ∧ wpAnyHIn F n P md ops Q S fuel (listed.setIfInBounds i true) a' w') a w
theorem AllHIn.nil {fuel : Nat} {listed : Array Bool} {a : Act} {w : World} : AllHIn F n P md ops Q S fuel listed a w [] := fun _ h => by cases h
def Lid (p : Prop) : Prop := p
theorem Lid.out {p : Prop} (h : Lid p) : p := h
theorem AllHIn.cons {fuel : Nat} {listed : Array Bool} {a : Act} {w : World} {i : Nat} {l : List Oper} {o : Oper} {rs : List Nat} (ho : l[i]? = some o) (hw : Region.wanted o (yielded l.toArray a.tmps) = true)
  (h : ∀ K' : Act → World → Prop, Lid (∀ a w, S w → wpAnyHIn F n P md l.toArray Q S fuel (listed.setIfInBounds i true) a w → K' a w) → Oper.wpIn F n P o a w K' Q)
  (hs : AllHIn F n P md l.toArray Q S fuel listed a w rs) : AllHIn F n P md l.toArray Q S fuel listed a w (i :: rs) := fun j hj => by
 rcases List.mem_cons.1 hj with rfl | hj
 ·refine wpOpIn_step (show l.toArray[_]? = some o by simpa using ho) fun K' hK => ?_
  rw [if_pos hw]
  exact h K' (fun a w hS hW => hK a w ⟨hS, hW⟩)
 exact hs j hj
theorem wpAnyHIn_ready (rs : List Nat) {fuel : Nat} {listed : Array Bool} {a : Act} {w : World} (hr : Region.ready md ops listed = rs) (hne : rs ≠ [])
  (h : AllHIn F n P md ops Q S fuel listed a w rs) : wpAnyHIn F n P md ops Q S (fuel + 1) listed a w := ⟨fun h0 => absurd (hr ▸ h0) hne, hr ▸ h⟩
theorem wpAnyHIn_done {listed : Array Bool} {a : Act} {w : World} (hr : Region.ready md ops listed = []) (h : Q .normal a w) :
  ∀ fuel, wpAnyHIn F n P md ops Q S fuel listed a w
 | 0 => ⟨hr, h⟩
 | _ + 1 => ⟨fun _ => h, by rw [hr]; simp⟩
theorem wpIn_region_held (S : World → Prop) (k : Nat) {listed : List Bool} {id : Nat} {a : Act} {w : World} (hm : P.follows .mixedOrders = true) (hk : ops.size = k) (hl : List.replicate k false = listed)
  (h : wpAnyHIn F n P .any ops Q S k listed.toArray a w.drew) : (Code.region id ops true).wpIn F n P Q a w :=
 wpIn_region_any hm (wpAnyIn_of_held _ _ _ _ (by subst hk; subst hl; rw [List.toArray_replicate] at h; exact h))
end
section
variable {F : Fence} {n : Nat} {P : Program} {ops : Array Oper} {Q : Exit → Act → World → Prop} {md : Region.Mode} {S : World → Prop}
def wpAnyMIn (F : Fence) (n : Nat) (P : Program) (md : Region.Mode) (ops : Array Oper) (Q : Exit → Act → World → Prop) (S : World → Prop) (m : Nat) : Nat → Array Bool → Act → World → Prop
 | 0, listed, a, w => Region.ready md ops listed = [] ∧ Q .normal a w
 | fuel + 1, listed, a, w =>
  (Region.ready md ops listed = [] → Q .normal a w) ∧
  ∀ i ∈ Region.ready md ops listed, wpOpIn F n P ops Q i (fun a' w' => ((listed.setIfInBounds i true).getD m true = false → S w') ∧ wpAnyMIn F n P md ops Q S m fuel (listed.setIfInBounds i true) a' w') a w
theorem wpAnyIn_of_mark {m : Nat} : ∀ (fuel : Nat) (listed : Array Bool) (a : Act) (w : World), wpAnyMIn F n P md ops Q S m fuel listed a w → wpAnyIn F n P md ops Q fuel listed a w
 | 0, _, _, _, h => h
 | fuel + 1, _, _, _, h => ⟨h.1, fun i hi => wpOpIn_mono (fun a' w' h' => wpAnyIn_of_mark fuel _ a' w' h'.2) (h.2 i hi)⟩
def deps (md : Region.Mode) (ops : Array Oper) (i : Nat) : List Nat := (List.range ops.size).foldl (fun D j => match ops[j]? with | some o => if o.after.any (fun e => Region.binds md e && (e.on == i || D.contains e.on)) then j :: D else D | none => D) []
def comesB (md : Region.Mode) (ops : Array Oper) (listed : Array Bool) (m i : Nat) (D : List Nat) : Bool :=
 D.contains m && D.all fun j => !listed.getD j true && j != i && match ops[j]? with | some o => o.after.any (fun e => Region.binds md e && (e.on == i || D.contains e.on)) | none => false
theorem comes_spec {i m : Nat} {listed : Array Bool} {D : List Nat} (h : comesB md ops listed m i D = true) : m ∈ D ∧ (∀ j ∈ D, listed.getD j true = false ∧ j ≠ i) ∧ ∀ j ∈ D, ∃ o, ops[j]? = some o ∧ ∃ e ∈ o.after, Region.binds md e = true ∧ (e.on = i ∨ e.on ∈ D) := by
 unfold comesB at h
 rw [Bool.and_eq_true, List.all_eq_true] at h
 refine ⟨by simpa using h.1, fun j hj => ?_, fun j hj => ?_⟩
 ·have := h.2 j hj
  rw [Bool.and_eq_true, Bool.and_eq_true, Bool.not_eq_true', bne_iff_ne] at this
  exact this.1
 have := h.2 j hj
 rw [Bool.and_eq_true, Bool.and_eq_true] at this
 have := this.2
 cases ho : ops[j]? with
 | none => rw [ho] at this; cases this
 | some o =>
  rw [ho] at this
  obtain ⟨e, he, hb⟩ := Array.any_eq_true'.1 this
  rw [Bool.and_eq_true, Bool.or_eq_true, beq_iff_eq] at hb
  exact ⟨o, rfl, e, he, hb.1, by simpa using hb.2⟩
theorem not_dep {i : Nat} {listed : Array Bool} {D : List Nat} (hd : ∀ j ∈ D, ∃ o, ops[j]? = some o ∧ ∃ e ∈ o.after, Region.binds md e = true ∧ (e.on = i ∨ e.on ∈ D)) (hi : listed.getD i true = false) (hD : ∀ j ∈ D, listed.getD j true = false) : ∀ j ∈ Region.ready md ops listed, j ∉ D := fun j hj hjD => by
 obtain ⟨_, oj, hoj, hall⟩ := mem_ready.1 hj
 obtain ⟨o, ho, e, he, hb, hon⟩ := hd j hjD
 rw [hoj] at ho
 cases ho
 have h1 := hall e he hb
 have h0 : listed.getD e.on true = false := by rcases hon with h | h; rw [h]; exact hi; exact hD _ h
 rcases Nat.lt_or_ge e.on listed.size with h' | h'
 ·simp [h'] at h0 h1; rw [h0] at h1; cases h1
 simp [Array.getElem?_eq_none h'] at h1
theorem wpAnyMIn_first {i m : Nat} {oi : Oper} {v : Value} (hnd : noDeferB ops = true) (hi : ops[i]? = some oi) (hsel : ∀ (j : Nat) (o : Oper) cs b, ops[j]? = some o → o.op ≠ .select cs b)
  (hQ : ∀ c a w, Q (.panic c) (a.put oi.dst v) w → Q (.panic c) a w) {D : List Nat} (hmD : m ∈ D) (hiD : ∀ j ∈ D, j ≠ i) (hd : ∀ j ∈ D, ∃ o, ops[j]? = some o ∧ ∃ e ∈ o.after, Region.binds md e = true ∧ (e.on = i ∨ e.on ∈ D)) :
  ∀ (fuel : Nat) (listed : Array Bool) (a : Act) (w : World),
   (∀ j oj, ops[j]? = some oj → j ≠ i → listed.getD j true = false → (∀ e ∈ oj.after, Region.binds md e = true → e.on ≠ i) → oi.apart ops oj = true) →
   i ∈ Region.ready md ops listed → (∀ j ∈ D, listed.getD j true = false) → YieldsHIn F P ops S oi v a → S w →
   wpAnyMIn F n P md ops Q S m fuel (listed.setIfInBounds i true) (a.put oi.dst v) w → wpAnyMIn F n P md ops Q S m (fuel + 1) listed a w := by
 intro fuel
 induction fuel with
 | zero =>
  intro listed a w _ hr _ hy hS H
  refine ⟨fun h => (by rw [h] at hr; cases hr), fun j hj => ?_⟩
  by_cases hji : j = i
  ·subst hji; exact hy.wpOpIn (noDefer_spec hnd hi) hi hS ⟨fun _ => hS, H⟩
  have := ready_mono hj hji
  rw [H.1] at this
  cases this
 | succ fuel ih =>
  intro listed a w hfree hr hlm hy hS H
  refine ⟨fun h => (by rw [h] at hr; cases hr), fun j hj => ?_⟩
  by_cases hji : j = i
  ·subst hji; exact hy.wpOpIn (noDefer_spec hnd hi) hi hS ⟨fun _ => hS, H⟩
  have h1 := H.2 j (ready_mono hj hji)
  have hjD : j ∉ D := not_dep hd (mem_ready.1 hr).1 hlm j hj
  obtain ⟨hjun, oj, hoj, hall⟩ := mem_ready.1 hj
  have hnot : ∀ e ∈ oj.after, Region.binds md e = true → e.on ≠ i := fun e he hb heq => by
   have h1 := hall e he hb
   have h0 := (mem_ready.1 hr).1
   rw [heq] at h1
   rcases Nat.lt_or_ge i listed.size with h' | h'
   ·simp [h'] at h0 h1; rw [h0] at h1; cases h1
   simp [Array.getElem?_eq_none h'] at h1
  have h2 := wpOpIn_putH (noDefer_spec hnd hoj) hoj (hfree j oj hoj hji hjun hnot) (fun cs b => hsel i oi cs b hi) (fun cs b => hsel j oj cs b hoj) hQ hy h1
  have hfree' : ∀ k ok, ops[k]? = some ok → k ≠ i → (listed.setIfInBounds j true).getD k true = false →
    (∀ e ∈ ok.after, Region.binds md e = true → e.on ≠ i) → oi.apart ops ok = true := fun k ok hk hki hun hno => by
   refine hfree k ok hk hki ?_ hno
   by_cases hjk : j = k
   ·subst hjk; exact hjun
   rw [getD_set_ne true hjk] at hun; exact hun
  have hlm' : ∀ d ∈ D, (listed.setIfInBounds j true).getD d true = false := fun d hdD => by rw [getD_set_ne true (fun (e : j = d) => hjD (by rw [e]; exact hdD))]; exact hlm d hdD
  have hlm2 : ((listed.setIfInBounds i true).setIfInBounds j true).getD m true = false := by rw [getD_set_ne true (fun (e : j = m) => hjD (by rw [e]; exact hmD)), getD_set_ne true (fun e => hiD m hmD e.symm)]; exact hlm m hmD
  refine wpOpIn_mono (fun a' w' h3 => ⟨fun _ => h3.2.1 hlm2, ih (listed.setIfInBounds j true) a' w' hfree' (ready_mono hr (Ne.symm hji)) hlm' h3.1 (h3.2.1 hlm2) ?_⟩) h2
  rw [Array.setIfInBounds_comm _ _ hji]
  exact h3.2.2
theorem wpAnyMIn_take (i : Nat) {m : Nat} {l : List Oper} {oi : Oper} {v : Value} {fuel : Nat} {listed : Array Bool} {a : Act} {w : World} (hi : l[i]? = some oi) (hnd : noDeferB l.toArray = true)
  (hs : Region.noSelect l.toArray = true) (hf : Region.free md l.toArray listed i = true) (hr : (Region.ready md l.toArray listed).contains i = true) (hc : comesB md l.toArray listed m i (deps md l.toArray i) = true)
  (hQ : ∀ c a w, Q (.panic c) (a.put oi.dst v) w → Q (.panic c) a w) (hb : ∀ w f, oi.about P w a.eval = some f → F.fn f) (hw : Region.wanted oi (yielded l.toArray a.tmps) = true) (hy : ∀ w, S w → (execOp a.eval oi).run P w = .ok (.value v) w) (hS : S w)
  (h : wpAnyMIn F n P md l.toArray Q S m fuel (listed.setIfInBounds i true) (a.put oi.dst v) w) : wpAnyMIn F n P md l.toArray Q S m (fuel + 1) listed a w :=
 have hi' : l.toArray[i]? = some oi := by simpa using hi
 wpAnyMIn_first hnd hi' (Region.noSelect_spec hs) hQ (comes_spec hc).1 (fun j hj => ((comes_spec hc).2.1 j hj).2) (comes_spec hc).2.2 fuel listed a w (Region.free_spec hi' hf) (by simpa using hr) (fun j hj => ((comes_spec hc).2.1 j hj).1) ⟨.inl ⟨hw, hy⟩, hb⟩ hS h
theorem wpAnyMIn_skip (i : Nat) {m : Nat} {l : List Oper} {oi : Oper} {fuel : Nat} {listed : Array Bool} {a : Act} {w : World} (hi : l[i]? = some oi) (hnd : noDeferB l.toArray = true)
  (hs : Region.noSelect l.toArray = true) (hf : Region.free md l.toArray listed i = true) (hr : (Region.ready md l.toArray listed).contains i = true) (hc : comesB md l.toArray listed m i (deps md l.toArray i) = true)
  (hQ : ∀ c a w, Q (.panic c) (a.put oi.dst undef) w → Q (.panic c) a w) (hb : ∀ w f, oi.about P w a.eval = some f → F.fn f) (hw : Region.wanted oi (yielded l.toArray a.tmps) = false) (hS : S w)
  (h : wpAnyMIn F n P md l.toArray Q S m fuel (listed.setIfInBounds i true) (a.put oi.dst undef) w) : wpAnyMIn F n P md l.toArray Q S m (fuel + 1) listed a w :=
 have hi' : l.toArray[i]? = some oi := by simpa using hi
 wpAnyMIn_first hnd hi' (Region.noSelect_spec hs) hQ (comes_spec hc).1 (fun j hj => ((comes_spec hc).2.1 j hj).2) (comes_spec hc).2.2 fuel listed a w (Region.free_spec hi' hf) (by simpa using hr) (fun j hj => ((comes_spec hc).2.1 j hj).1) ⟨.inr ⟨hw, rfl⟩, hb⟩ hS h
def AllMIn (F : Fence) (n : Nat) (P : Program) (md : Region.Mode) (ops : Array Oper) (Q : Exit → Act → World → Prop) (S : World → Prop) (m : Nat) (fuel : Nat) (listed : Array Bool) (a : Act) (w : World) (rs : List Nat) : Prop :=
 ∀ i ∈ rs, wpOpIn F n P ops Q i (fun a' w' => ((listed.setIfInBounds i true).getD m true = false → S w') ∧ wpAnyMIn F n P md ops Q S m fuel (listed.setIfInBounds i true) a' w') a w
theorem AllMIn.nil {m fuel : Nat} {listed : Array Bool} {a : Act} {w : World} : AllMIn F n P md ops Q S m fuel listed a w [] := fun _ h => by cases h
theorem AllMIn.cons {m fuel : Nat} {listed : Array Bool} {a : Act} {w : World} {i : Nat} {l : List Oper} {o : Oper} {rs : List Nat} (ho : l[i]? = some o) (hw : Region.wanted o (yielded l.toArray a.tmps) = true)
  (h : ∀ K' : Act → World → Prop, Lid (∀ a w, ((listed.setIfInBounds i true).getD m true = false → S w) → wpAnyMIn F n P md l.toArray Q S m fuel (listed.setIfInBounds i true) a w → K' a w) → Oper.wpIn F n P o a w K' Q)
  (hs : AllMIn F n P md l.toArray Q S m fuel listed a w rs) : AllMIn F n P md l.toArray Q S m fuel listed a w (i :: rs) := fun j hj => by
 rcases List.mem_cons.1 hj with rfl | hj
 ·refine wpOpIn_step (show l.toArray[_]? = some o by simpa using ho) fun K' hK => ?_
  rw [if_pos hw]
  exact h K' (fun a w hS hW => hK a w ⟨hS, hW⟩)
 exact hs j hj
theorem wpAnyMIn_ready (rs : List Nat) {m fuel : Nat} {listed : Array Bool} {a : Act} {w : World} (hr : Region.ready md ops listed = rs) (hne : rs ≠ [])
  (h : AllMIn F n P md ops Q S m fuel listed a w rs) : wpAnyMIn F n P md ops Q S m (fuel + 1) listed a w := ⟨fun h0 => absurd (hr ▸ h0) hne, hr ▸ h⟩
theorem wpAnyMIn_done {m : Nat} {listed : Array Bool} {a : Act} {w : World} (hr : Region.ready md ops listed = []) (h : Q .normal a w) :
  ∀ fuel, wpAnyMIn F n P md ops Q S m fuel listed a w
 | 0 => ⟨hr, h⟩
 | _ + 1 => ⟨fun _ => h, by rw [hr]; simp⟩
theorem wpIn_region_mark (S : World → Prop) (m k : Nat) {listed : List Bool} {id : Nat} {a : Act} {w : World} (hm : P.follows .mixedOrders = true) (hk : ops.size = k) (hl : List.replicate k false = listed)
  (h : wpAnyMIn F n P .any ops Q S m k listed.toArray a w.drew) : (Code.region id ops true).wpIn F n P Q a w :=
 wpIn_region_any hm (wpAnyIn_of_mark _ _ _ _ (by subst hk; subst hl; rw [List.toArray_replicate] at h; exact h))
end
end Go.Firn
namespace Go.Firn
open Go.RowKit
def Gr (w w' : World) : Prop := Below w.heap.size w w'
theorem Gr.refl (w : World) : Gr w w := Below.refl _ _
theorem Gr.size {w w' : World} (h : Gr w w') : w.heap.size ≤ w'.heap.size := Below.size h
theorem Gr.trans {a b c : World} (h : Gr a b) (k : Gr b c) : Gr a c := Below.trans h (Below.mono k h.size)
theorem Gr.drew {a w : World} (h : Gr a w) : Gr a w.drew := Below.drew h
theorem Gr.alloc {a w : World} (h : Gr a w) (o : Obj) : Gr a (w.alloc o) := Below.alloc h h.size o
theorem Gr.setCell {a w : World} (h : Gr a w) {p : Addr} (hp : a.heap.size ≤ p.block) (u : Value) : Gr a (w.setCell p u) := Below.setCell h hp u
theorem Gr.grown {a w w' : World} {row : Option Nat} (h : Gr a w) (hg : w.grownBy w' row) (hr : ∀ k, row = some k → a.heap.size ≤ k) : Gr a w' := Below.grown h hg h.size hr
theorem Gr.cell {w w' : World} (h : Gr w w') {p : Addr} {v : Value} (hp : w.cell? p = some v) : w'.cell? p = some v := by
 rw [Below.cell h (World.block_lt_of_cell? w p hp)]; exact hp
theorem Gr.drewN {a w : World} (h : Gr a w) (n : Nat) : Gr a (w.drewN n) := ⟨h.os, h.tape, h.output, h.size, h.block⟩
def RdI (w : World) (a : Option Addr) (n : Nat) (f : Nat → Int) : Prop :=
 n = 0 ∨ ∃ b o, a = some ⟨b, o, none⟩ ∧ ∀ i, i < n → w.cell? ⟨b, o + i, none⟩ = some (.int .i64 (f i))
theorem RdI.gr {w w' : World} {a : Option Addr} {n : Nat} {f : Nat → Int} (h : RdI w a n f) (g : Gr w w') : RdI w' a n f := by
 rcases h with h | ⟨b, o, ha, hc⟩
 ·exact .inl h
 exact .inr ⟨b, o, ha, fun i hi => g.cell (hc i hi)⟩
theorem RdI.congr {w : World} {a : Option Addr} {n : Nat} {f g : Nat → Int} (h : RdI w a n f) (e : ∀ i, i < n → f i = g i) : RdI w a n g := by
 rcases h with h | ⟨b, o, ha, hc⟩
 ·exact .inl h
 exact .inr ⟨b, o, ha, fun i hi => by rw [hc i hi, e i hi]⟩
theorem RdI.nil (w : World) (a : Option Addr) (f : Nat → Int) : RdI w a 0 f := .inl rfl
theorem RdI.at {w : World} {a : Option Addr} {n : Nat} {f : Nat → Int} (h : RdI w a n f) {k : Nat} (hk : k < n) : ∃ b o, a = some ⟨b, o, none⟩ ∧ ∀ i, i < n → w.cell? ⟨b, o + i, none⟩ = some (.int .i64 (f i)) := by
 rcases h with h | h
 ·omega
 exact h
theorem RdI.of_owns {w : World} {base e : Nat} {v : Value} {n : Nat} {f : Nat → Int} (h : w.ownsRow base e 1 v n ((List.range n).map fun i => Value.int .i64 (f i))) :
  ∃ a c, v = .slice a n c ∧ n ≤ c ∧ c ≤ maxLen ∧ RdI w a n f := by
 have h0 := h
 obtain ⟨hl, hv⟩ := h
 rcases hv with ⟨rfl, rfl⟩ | ⟨g, cap, cur, rfl, hb, hg, hnc, hcm, hcs, htake⟩
 ·exact ⟨none, 0, rfl, Nat.le_refl _, by unfold maxLen; omega, .inl rfl⟩
 refine ⟨_, _, rfl, hnc, hcm, .inr ⟨g, 0, rfl, fun i hi => ?_⟩⟩
 have hc := h0.cells (g := g) rfl i (.int .i64 (f i)) (by simp [hi])
 have hadd : (⟨g, 0, none⟩ : Addr).add i = ⟨g, 0 + i, none⟩ := by unfold Addr.add; split <;> simp_all
 rw [hadd] at hc
 exact hc
theorem range_succ_int (k : Nat) (f : Nat → Int) : ((List.range (k + 1)).map fun i => Value.int .i64 (f i)) = ((List.range k).map fun i => Value.int .i64 (f i)) ++ [Value.int .i64 (f k)] := by
 rw [List.range_succ, List.map_append]; rfl
def RetB (b : Bool) (w : World) (e : Ending) (w' : World) : Prop := e = .returned (.bool b) ∧ Gr w w'
def RetIs (n : Nat) (f : Nat → Int) (err : Int) (w : World) (e : Ending) (w' : World) : Prop :=
 ∃ a c, e = .returned (.tuple #[.slice a n c, .int .i64 err]) ∧ n ≤ c ∧ c ≤ maxLen ∧ RdI w' a n f ∧ Gr w w'
def ints (k : Nat) (f : Nat → Int) : List Value := (List.range k).map fun i => Value.int .i64 (f i)
theorem ints_succ (k : Nat) (f : Nat → Int) : ints (k + 1) f = ints k f ++ [Value.int .i64 (f k)] := range_succ_int k f
def OwnI (w0 : World) (e : TypeId) (w : World) (v : Value) (k : Nat) (f : Nat → Int) : Prop := w.ownsRow w0.heap.size e 1 v k (ints k f) ∧ Gr w0 w
theorem OwnI.nil (w : World) (e : TypeId) (f : Nat → Int) : OwnI w e w (.slice none 0 0) 0 f := ⟨World.ownsRow_nil w _ _ _, Gr.refl w⟩
theorem OwnI.nil' {w0 w : World} (g : Gr w0 w) (e : TypeId) (f : Nat → Int) : OwnI w0 e w (.slice none 0 0) 0 f := ⟨World.ownsRow_nil w _ _ _, g⟩
theorem OwnI.alloc {w0 w : World} {e : TypeId} {v : Value} {k : Nat} {f : Nat → Int} (h : OwnI w0 e w v k f) (o : Obj) : OwnI w0 e (w.alloc o) v k f := ⟨h.1.alloc o, h.2.alloc o⟩
theorem OwnI.gr {w0 w w' : World} {e : TypeId} {v : Value} {k : Nat} {f : Nat → Int} (h : OwnI w0 e w v k f) (g : Gr w w') : OwnI w0 e w' v k f :=
 ⟨h.1.kept (row := none) ⟨g.os, g.tape, g.output, Gr.size g, fun k hk _ => Below.block g k hk⟩ (by cases v.ownBlock <;> simp), h.2.trans g⟩
theorem OwnI.rd {w0 w : World} {e : TypeId} {v : Value} {k : Nat} {f : Nat → Int} (h : OwnI w0 e w v k f) : ∃ a c, v = .slice a k c ∧ k ≤ c ∧ c ≤ maxLen ∧ RdI w a k f := RdI.of_owns h.1
theorem OwnI.congr {w0 w : World} {e : TypeId} {v : Value} {k : Nat} {f g : Nat → Int} (h : OwnI w0 e w v k f) (hfg : ∀ i, i < k → f i = g i) : OwnI w0 e w v k g := by
 have : ints k f = ints k g := List.map_congr_left fun i hi => by rw [hfg i (by simpa using hi)]
 unfold OwnI at *
 rw [← this]; exact h
theorem OwnI.ret {w0 w : World} {e : TypeId} {v : Value} {k : Nat} {f : Nat → Int} (h : OwnI w0 e w v k f) (err : Int) : RetIs k f err w0 (.returned (.tuple #[v, .int .i64 err])) w := by
 obtain ⟨a, c, rfl, h1, h2, h3⟩ := h.rd
 exact ⟨a, c, rfl, h1, h2, h3, h.2⟩
theorem info_int {P : Program} {e : TypeId} (h : (P.info? e).map (fun i => (i.zero, i.size, i.bytes)) = some (some (.int .i64 0), 1, 8)) :
  ∃ i, P.info? e = some i ∧ i.zero = some (.int .i64 0) ∧ i.size = 1 ∧ i.bytes = 8 := by
 cases hi : P.info? e with
 | none => rw [hi] at h; cases h
 | some i => rw [hi] at h; simp at h; exact ⟨i, rfl, h.1, h.2.1, h.2.2⟩
theorem cell_new1 (w : World) (v : Value) (e : TypeId) : (w.alloc (.cells #[v] e)).cell? ⟨w.heap.size, 0, none⟩ = some v := by simp [World.cell?_alloc_new]
theorem wp_app_int {P : Program} {o : Oper} {a : Act} {K : Act → World → Prop} {Q : Exit → Act → World → Prop} (s x : Operand) (t e : TypeId)
  (ho : o.op = .call { callee := .builtin .append, args := #[s, x], argTypes := #[t, t] })
  (ht : P.underlying t = some (.slice e)) (hinfo : (P.info? e).map (fun i => (i.zero, i.size, i.bytes)) = some (some (.int .i64 0), 1, 8))
  {w0 w : World} (v : Value) (k : Nat) (f : Nat → Int) (hs : a.eval s = v) (hown : OwnI w0 e w v k f)
  (g : Nat) (r : Int) (hx : a.eval x = .slice (some ⟨g, 0, none⟩) 1 1) (hg : w.cell? ⟨g, 0, none⟩ = some (.int .i64 r)) (hf : f k = r) (hk : k < 1000000000)
  (h : ∀ v' w', OwnI w0 e w' v' (k + 1) f → w.grownBy w' v.ownBlock → K (a.put o.dst v') w') : o.wp P a w K Q := by
 obtain ⟨i0, hi, hz0, hz1, hz2⟩ := info_int hinfo
 subst hf
 refine wp_append_own w s x t ho w0.heap.size e i0 (.int .i64 0) 1 8 ht hi hz0 hz1 hz2 rfl (by decide) v k (ints k f) hs hown.1 ⟨g, 0, none⟩ 1 1 [.int .i64 (f k)] hx rfl ?_ ?_ ?_ ?_ hown.2.size ?_
 ·intro j u hu
  cases j with
  | zero => simp at hu; subst hu; exact hg
  | succ j => simp at hu
 ·simp [Value.oneCell']
 ·unfold maxLen; omega
 ·omega
 intro v' w' h1 h2 _
 rw [← ints_succ] at h1
 exact h v' w' ⟨h1, hown.2.grown h2 fun k hk => (hown.1.lt k hk).1⟩ h2
theorem wpList_app_int {P : Program} {ops : Array Oper} {rest : List Oper} {o : Oper} {a : Act} {Q : Exit → Act → World → Prop} (hgd : o.guard = none) (s x : Operand) (t e : TypeId)
  (ho : o.op = .call { callee := .builtin .append, args := #[s, x], argTypes := #[t, t] })
  (ht : P.underlying t = some (.slice e)) (hinfo : (P.info? e).map (fun i => (i.zero, i.size, i.bytes)) = some (some (.int .i64 0), 1, 8))
  {w0 w : World} (v : Value) (k : Nat) (f : Nat → Int) (hs : a.eval s = v) (hown : OwnI w0 e w v k f)
  (g : Nat) (r : Int) (hx : a.eval x = .slice (some ⟨g, 0, none⟩) 1 1) (hg : w.cell? ⟨g, 0, none⟩ = some (.int .i64 r)) (hf : f k = r) (hk : k < 1000000000)
  (h : ∀ v' w', OwnI w0 e w' v' (k + 1) f → w.grownBy w' v.ownBlock → wpList P ops Q rest (a.put o.dst v') w') : wpList P ops Q (o :: rest) a w :=
 wpList_plain hgd fun _ hK => wp_app_int s x t e ho ht hinfo v k f hs hown g r hx hg hf hk fun v' w' h1 h2 => hK _ _ (h v' w' h1 h2)
theorem OwnI.drew {w0 w : World} {e : TypeId} {v : Value} {k : Nat} {f : Nat → Int} (h : OwnI w0 e w v k f) : OwnI w0 e w.drew v k f := h.gr ((Gr.refl w).drew)
def IsRow (w : World) (a : Option Addr) (len cap : Nat) (zs : List Int) : Prop :=
 (a = none ∧ len = 0 ∧ cap = 0 ∧ zs = []) ∨
 ∃ x, a = some x ∧ len ≤ cap ∧ cap ≤ maxLen ∧ zs.length = cap ∧ (∀ i, i < zs.length → w.cell? (x.add i) = some (.int .i64 (zs.getD i 0))) ∧ ∀ n ∈ zs, (Lit.int .i64 n).wf = true
theorem add_flat {x : Addr} (h : x.spot = none) (i : Nat) : x.add i = ⟨x.block, x.off + i, none⟩ := by
 obtain ⟨b, o, s⟩ := x
 simp only at h
 subst h
 unfold Addr.add
 split
 ·subst_vars; simp
 rfl
theorem IsRow.rd {w : World} {a : Option Addr} {len cap : Nat} {zs : List Int} (h : IsRow w a len cap zs) :
  len ≤ 9223372036854775807 ∧ RdI w a len (fun i => zs.getD i 0) := by
 rcases h with ⟨rfl, rfl, rfl, rfl⟩ | ⟨x, rfl, hl, hm, hz, hc, _⟩
 ·exact ⟨by omega, .inl rfl⟩
 unfold maxLen at hm
 refine ⟨by omega, ?_⟩
 by_cases h0 : len = 0
 ·exact .inl h0
 have hs : x.spot = none := by
  have := World.cell?_spot (hc 0 (by omega))
  simpa [Addr.add] using this
 obtain ⟨b, o, s⟩ := x
 simp only at hs
 subst hs
 exact .inr ⟨b, o, rfl, fun i hi => by rw [← hc i (by omega), add_flat rfl]⟩
end Go.Firn
namespace Go.Firn
open Go
theorem Lh {p : Prop} (h : p) : RowKit.Hid p := h
section
variable {F : Fence} {n : Nat} {P : Program} {Q : Exit → Act → World → Prop} {md : Region.Mode} {S C : World → Prop} {l : List Oper} {oi : Oper} {v : Value} {m fuel : Nat} {listed listed' : Array Bool} {a a' : Act} {w : World}
theorem Hc {i : Nat} {rs : List Nat} (h : ∀ K' : Act → World → Prop, Lid (∀ a w, S w → wpAnyHIn F n P md l.toArray Q S fuel (listed.setIfInBounds i true) a w → K' a w) → Oper.wpIn F n P oi a w K' Q) (hs : AllHIn F n P md l.toArray Q S fuel listed a w rs) (ho : l[i]? = some oi := by rfl) (hw : Region.wanted oi (yielded l.toArray a.tmps) = true := by rfl) : AllHIn F n P md l.toArray Q S fuel listed a w (i :: rs) := AllHIn.cons ho hw h hs
theorem Hq (rs : List Nat) {ops : Array Oper} (h : AllHIn F n P md ops Q S fuel listed a w rs) (hr : Region.ready md ops listed = rs := by kernel_rfl) (hne : rs ≠ [] := by simp) : wpAnyHIn F n P md ops Q S (fuel + 1) listed a w := wpAnyHIn_ready rs hr hne h
theorem tv : ∀ w, S w → True := fun _ _ => trivial
structure St (F : Fence) (n : Nat) (P : Program) (md : Region.Mode) (Q : Exit → Act → World → Prop) (S C : World → Prop) (l : List Oper) (i : Nat) (listed : Array Bool) (a : Act) (listed' : Array Bool) (a' : Act) : Prop where
 run : ∀ fuel w, (∀ w, S w → C w) → S w → wpAnyHIn F n P md l.toArray Q S fuel listed' a' w → wpAnyHIn F n P md l.toArray Q S (fuel + 1) listed a w
theorem St.of {i : Nat} (hi : l[i]? = some oi) (hnd : noDeferB l.toArray = true := by kernel_rfl) (hs : Region.noSelect l.toArray = true := by kernel_rfl) (hf : Region.free md l.toArray listed i = true := by kernel_rfl) (hr : (Region.ready md l.toArray listed).contains i = true := by decide +kernel)
  (hQ : ∀ c a w, Q (.panic c) (a.put oi.dst v) w → Q (.panic c) a w := by exact fun _ _ _ h => h) (hb : ∀ w f, oi.about P w a.eval = some f → F.fn f := by exact fun _ _ _ => trivial) (hw : Region.wanted oi (yielded l.toArray a.tmps) = true := by rfl)
  (hy : ∀ w, S w → C w → (execOp a.eval oi).run P w = .ok (.value v) w := by (intro w' h0 h1; go_simp; try with_reducible rfl))
  (hl : listed.setIfInBounds i true = listed' := by (simp only [List.setIfInBounds_toArray, List.set_cons_zero, List.set_cons_succ]; exact rfl)) (ha : a.put oi.dst v = a' := by (simp only [Act.put, List.setIfInBounds_toArray, List.set_cons_zero, List.set_cons_succ]; exact rfl)) : St F n P md Q S C l i listed a listed' a' :=
 ⟨fun fuel w HF hS h => wpAnyHIn_take i hi hnd hs hf hr hQ hb hw (fun w h => hy w h (HF w h)) hS (by rw [hl, ha]; exact h)⟩
theorem St.skip {i : Nat} (hi : l[i]? = some oi) (hnd : noDeferB l.toArray = true := by kernel_rfl) (hs : Region.noSelect l.toArray = true := by kernel_rfl) (hf : Region.free md l.toArray listed i = true := by kernel_rfl) (hr : (Region.ready md l.toArray listed).contains i = true := by decide +kernel)
  (hQ : ∀ c a w, Q (.panic c) (a.put oi.dst undef) w → Q (.panic c) a w := by exact fun _ _ _ h => h) (hb : ∀ w f, oi.about P w a.eval = some f → F.fn f := by exact fun _ _ _ => trivial) (hw : Region.wanted oi (yielded l.toArray a.tmps) = false := by rfl)
  (hl : listed.setIfInBounds i true = listed' := by (simp only [List.setIfInBounds_toArray, List.set_cons_zero, List.set_cons_succ]; exact rfl)) (ha : a.put oi.dst undef = a' := by (simp only [Act.put, List.setIfInBounds_toArray, List.set_cons_zero, List.set_cons_succ]; exact rfl)) : St F n P md Q S C l i listed a listed' a' :=
 ⟨fun fuel w _ hS h => wpAnyHIn_skip i hi hnd hs hf hr hQ hb hw hS (by rw [hl, ha]; exact h)⟩
theorem H1 (i0 : Nat) {L1 : Array Bool} {a1 : Act} (HF : ∀ w, S w → C w) (hS : S w) (h : wpAnyHIn F n P md l.toArray Q S fuel L1 a1 w)
  (s0 : St F n P md Q S C l i0 listed a L1 a1 := by exact St.of rfl) :
  wpAnyHIn F n P md l.toArray Q S (fuel + 1) listed a w :=
 s0.run _ w HF hS (h)
theorem H2 (i0 i1 : Nat) {L1 L2 : Array Bool} {a1 a2 : Act} (HF : ∀ w, S w → C w) (hS : S w) (h : wpAnyHIn F n P md l.toArray Q S fuel L2 a2 w)
  (s0 : St F n P md Q S C l i0 listed a L1 a1 := by exact St.of rfl) (s1 : St F n P md Q S C l i1 L1 a1 L2 a2 := by exact St.of rfl) :
  wpAnyHIn F n P md l.toArray Q S (fuel + 2) listed a w :=
 s0.run _ w HF hS (s1.run _ w HF hS (h))
theorem H3 (i0 i1 i2 : Nat) {L1 L2 L3 : Array Bool} {a1 a2 a3 : Act} (HF : ∀ w, S w → C w) (hS : S w) (h : wpAnyHIn F n P md l.toArray Q S fuel L3 a3 w)
  (s0 : St F n P md Q S C l i0 listed a L1 a1 := by exact St.of rfl) (s1 : St F n P md Q S C l i1 L1 a1 L2 a2 := by exact St.of rfl) (s2 : St F n P md Q S C l i2 L2 a2 L3 a3 := by exact St.of rfl) :
  wpAnyHIn F n P md l.toArray Q S (fuel + 3) listed a w :=
 s0.run _ w HF hS (s1.run _ w HF hS (s2.run _ w HF hS (h)))
theorem H4 (i0 i1 i2 i3 : Nat) {L1 L2 L3 L4 : Array Bool} {a1 a2 a3 a4 : Act} (HF : ∀ w, S w → C w) (hS : S w) (h : wpAnyHIn F n P md l.toArray Q S fuel L4 a4 w)
  (s0 : St F n P md Q S C l i0 listed a L1 a1 := by exact St.of rfl) (s1 : St F n P md Q S C l i1 L1 a1 L2 a2 := by exact St.of rfl) (s2 : St F n P md Q S C l i2 L2 a2 L3 a3 := by exact St.of rfl) (s3 : St F n P md Q S C l i3 L3 a3 L4 a4 := by exact St.of rfl) :
  wpAnyHIn F n P md l.toArray Q S (fuel + 4) listed a w :=
 s0.run _ w HF hS (s1.run _ w HF hS (s2.run _ w HF hS (s3.run _ w HF hS (h))))
theorem H5 (i0 i1 i2 i3 i4 : Nat) {L1 L2 L3 L4 L5 : Array Bool} {a1 a2 a3 a4 a5 : Act} (HF : ∀ w, S w → C w) (hS : S w) (h : wpAnyHIn F n P md l.toArray Q S fuel L5 a5 w)
  (s0 : St F n P md Q S C l i0 listed a L1 a1 := by exact St.of rfl) (s1 : St F n P md Q S C l i1 L1 a1 L2 a2 := by exact St.of rfl) (s2 : St F n P md Q S C l i2 L2 a2 L3 a3 := by exact St.of rfl) (s3 : St F n P md Q S C l i3 L3 a3 L4 a4 := by exact St.of rfl) (s4 : St F n P md Q S C l i4 L4 a4 L5 a5 := by exact St.of rfl) :
  wpAnyHIn F n P md l.toArray Q S (fuel + 5) listed a w :=
 s0.run _ w HF hS (s1.run _ w HF hS (s2.run _ w HF hS (s3.run _ w HF hS (s4.run _ w HF hS (h)))))
theorem H12 (i0 i1 i2 i3 i4 i5 i6 i7 i8 i9 i10 i11 : Nat) {L1 L2 L3 L4 L5 L6 L7 L8 L9 L10 L11 L12 : Array Bool} {a1 a2 a3 a4 a5 a6 a7 a8 a9 a10 a11 a12 : Act} (HF : ∀ w, S w → C w) (hS : S w) (h : wpAnyHIn F n P md l.toArray Q S fuel L12 a12 w)
  (s0 : St F n P md Q S C l i0 listed a L1 a1 := by exact St.of rfl) (s1 : St F n P md Q S C l i1 L1 a1 L2 a2 := by exact St.of rfl) (s2 : St F n P md Q S C l i2 L2 a2 L3 a3 := by exact St.of rfl) (s3 : St F n P md Q S C l i3 L3 a3 L4 a4 := by exact St.of rfl) (s4 : St F n P md Q S C l i4 L4 a4 L5 a5 := by exact St.of rfl) (s5 : St F n P md Q S C l i5 L5 a5 L6 a6 := by exact St.of rfl) (s6 : St F n P md Q S C l i6 L6 a6 L7 a7 := by exact St.of rfl) (s7 : St F n P md Q S C l i7 L7 a7 L8 a8 := by exact St.of rfl) (s8 : St F n P md Q S C l i8 L8 a8 L9 a9 := by exact St.of rfl) (s9 : St F n P md Q S C l i9 L9 a9 L10 a10 := by exact St.of rfl) (s10 : St F n P md Q S C l i10 L10 a10 L11 a11 := by exact St.of rfl) (s11 : St F n P md Q S C l i11 L11 a11 L12 a12 := by exact St.of rfl) :
  wpAnyHIn F n P md l.toArray Q S (fuel + 12) listed a w :=
 s0.run _ w HF hS (s1.run _ w HF hS (s2.run _ w HF hS (s3.run _ w HF hS (s4.run _ w HF hS (s5.run _ w HF hS (s6.run _ w HF hS (s7.run _ w HF hS (s8.run _ w HF hS (s9.run _ w HF hS (s10.run _ w HF hS (s11.run _ w HF hS (h))))))))))))
theorem Hs1 (i0 : Nat) {L1 : Array Bool} {a1 : Act} (hS : S w) (h : wpAnyHIn F n P md l.toArray Q S fuel L1 a1 w)
  (s0 : St F n P md Q S (fun _ => True) l i0 listed a L1 a1 := by exact St.skip rfl) :
  wpAnyHIn F n P md l.toArray Q S (fuel + 1) listed a w :=
 s0.run _ w tv hS (h)
theorem Hs2 (i0 i1 : Nat) {L1 L2 : Array Bool} {a1 a2 : Act} (hS : S w) (h : wpAnyHIn F n P md l.toArray Q S fuel L2 a2 w)
  (s0 : St F n P md Q S (fun _ => True) l i0 listed a L1 a1 := by exact St.skip rfl) (s1 : St F n P md Q S (fun _ => True) l i1 L1 a1 L2 a2 := by exact St.skip rfl) :
  wpAnyHIn F n P md l.toArray Q S (fuel + 2) listed a w :=
 s0.run _ w tv hS (s1.run _ w tv hS (h))
theorem Hs4 (i0 i1 i2 i3 : Nat) {L1 L2 L3 L4 : Array Bool} {a1 a2 a3 a4 : Act} (hS : S w) (h : wpAnyHIn F n P md l.toArray Q S fuel L4 a4 w)
  (s0 : St F n P md Q S (fun _ => True) l i0 listed a L1 a1 := by exact St.skip rfl) (s1 : St F n P md Q S (fun _ => True) l i1 L1 a1 L2 a2 := by exact St.skip rfl) (s2 : St F n P md Q S (fun _ => True) l i2 L2 a2 L3 a3 := by exact St.skip rfl) (s3 : St F n P md Q S (fun _ => True) l i3 L3 a3 L4 a4 := by exact St.skip rfl) :
  wpAnyHIn F n P md l.toArray Q S (fuel + 4) listed a w :=
 s0.run _ w tv hS (s1.run _ w tv hS (s2.run _ w tv hS (s3.run _ w tv hS (h))))
theorem Hs8 (i0 i1 i2 i3 i4 i5 i6 i7 : Nat) {L1 L2 L3 L4 L5 L6 L7 L8 : Array Bool} {a1 a2 a3 a4 a5 a6 a7 a8 : Act} (hS : S w) (h : wpAnyHIn F n P md l.toArray Q S fuel L8 a8 w)
  (s0 : St F n P md Q S (fun _ => True) l i0 listed a L1 a1 := by exact St.skip rfl) (s1 : St F n P md Q S (fun _ => True) l i1 L1 a1 L2 a2 := by exact St.skip rfl) (s2 : St F n P md Q S (fun _ => True) l i2 L2 a2 L3 a3 := by exact St.skip rfl) (s3 : St F n P md Q S (fun _ => True) l i3 L3 a3 L4 a4 := by exact St.skip rfl) (s4 : St F n P md Q S (fun _ => True) l i4 L4 a4 L5 a5 := by exact St.skip rfl) (s5 : St F n P md Q S (fun _ => True) l i5 L5 a5 L6 a6 := by exact St.skip rfl) (s6 : St F n P md Q S (fun _ => True) l i6 L6 a6 L7 a7 := by exact St.skip rfl) (s7 : St F n P md Q S (fun _ => True) l i7 L7 a7 L8 a8 := by exact St.skip rfl) :
  wpAnyHIn F n P md l.toArray Q S (fuel + 8) listed a w :=
 s0.run _ w tv hS (s1.run _ w tv hS (s2.run _ w tv hS (s3.run _ w tv hS (s4.run _ w tv hS (s5.run _ w tv hS (s6.run _ w tv hS (s7.run _ w tv hS (h))))))))
theorem Mk (i : Nat) (hi : l[i]? = some oi) (HF : ∀ w, S w → C w) (hS : S w) (h : wpAnyMIn F n P md l.toArray Q S m fuel listed' a' w)
  (hnd : noDeferB l.toArray = true := by kernel_rfl) (hs : Region.noSelect l.toArray = true := by kernel_rfl) (hf : Region.free md l.toArray listed i = true := by kernel_rfl) (hr : (Region.ready md l.toArray listed).contains i = true := by decide +kernel) (hc : comesB md l.toArray listed m i (deps md l.toArray i) = true := by kernel_rfl)
  (hQ : ∀ c a w, Q (.panic c) (a.put oi.dst v) w → Q (.panic c) a w := by exact fun _ _ _ h => h) (hb : ∀ w f, oi.about P w a.eval = some f → F.fn f := by exact fun _ _ _ => trivial) (hw : Region.wanted oi (yielded l.toArray a.tmps) = true := by rfl)
  (hy : ∀ w, S w → C w → (execOp a.eval oi).run P w = .ok (.value v) w := by (intro w' h0 h1; go_simp; try with_reducible rfl))
  (hl : listed.setIfInBounds i true = listed' := by (simp only [List.setIfInBounds_toArray, List.set_cons_zero, List.set_cons_succ]; exact rfl)) (ha : a.put oi.dst v = a' := by (simp only [Act.put, List.setIfInBounds_toArray, List.set_cons_zero, List.set_cons_succ]; exact rfl)) :
  wpAnyMIn F n P md l.toArray Q S m (fuel + 1) listed a w :=
 wpAnyMIn_take i hi hnd hs hf hr hc hQ hb hw (fun w h => hy w h (HF w h)) hS (by rw [hl, ha]; exact h)
theorem Ms (i : Nat) (hi : l[i]? = some oi) (hS : S w) (h : wpAnyMIn F n P md l.toArray Q S m fuel listed' a' w)
  (hnd : noDeferB l.toArray = true := by kernel_rfl) (hs : Region.noSelect l.toArray = true := by kernel_rfl) (hf : Region.free md l.toArray listed i = true := by kernel_rfl) (hr : (Region.ready md l.toArray listed).contains i = true := by decide +kernel) (hc : comesB md l.toArray listed m i (deps md l.toArray i) = true := by kernel_rfl)
  (hQ : ∀ c a w, Q (.panic c) (a.put oi.dst undef) w → Q (.panic c) a w := by exact fun _ _ _ h => h) (hb : ∀ w f, oi.about P w a.eval = some f → F.fn f := by exact fun _ _ _ => trivial) (hw : Region.wanted oi (yielded l.toArray a.tmps) = false := by rfl)
  (hl : listed.setIfInBounds i true = listed' := by (simp only [List.setIfInBounds_toArray, List.set_cons_zero, List.set_cons_succ]; exact rfl)) (ha : a.put oi.dst undef = a' := by (simp only [Act.put, List.setIfInBounds_toArray, List.set_cons_zero, List.set_cons_succ]; exact rfl)) :
  wpAnyMIn F n P md l.toArray Q S m (fuel + 1) listed a w :=
 wpAnyMIn_skip i hi hnd hs hf hr hc hQ hb hw hS (by rw [hl, ha]; exact h)
theorem Hr (i : Nat) (ho : l[i]? = some oi) (h : ∀ K' : Act → World → Prop, Lid (∀ a w, S w → wpAnyHIn F n P md l.toArray Q S fuel (listed.setIfInBounds i true) a w → K' a w) → Oper.wpIn F n P oi a w K' Q)
  (hr : Region.ready md l.toArray listed = [i] := by kernel_rfl) (hw : Region.wanted oi (yielded l.toArray a.tmps) = true := by rfl) : wpAnyHIn F n P md l.toArray Q S (fuel + 1) listed a w :=
 wpAnyHIn_ready [i] hr (by simp) (AllHIn.cons ho hw h AllHIn.nil)
theorem Hd (h : Q .normal a w) {ops : Array Oper} (hr : Region.ready md ops listed = [] := by kernel_rfl) : wpAnyHIn F n P md ops Q S fuel listed a w := wpAnyHIn_done hr h _
end
section
variable {P : Program} {Q : Exit → Act → World → Prop}
theorem Hg (S : World → Prop) (k : Nat) {ops : Array Oper} {listed : List Bool} {id : Nat} {a : Act} {w : World} (h : wpAnyHIn Fence.wide 3 P .any ops Q S k listed.toArray a w.drew) (hm : P.follows .mixedOrders = true := by kernel_rfl) (hk : ops.size = k := by rfl) (hl : List.replicate k false = listed := by rfl) :
  (Code.region id ops true).wp P Q a w := (wpIn_wide (n := 3)).1 (wpIn_region_held S k hm hk hl h)
end
theorem c1 {w : World} {p0 : Addr} {v0 : Value} (h0 : w.cell? p0 = some v0) : ∀ w', Gr w w' → w'.cell? p0 = some v0 := fun _ g => g.cell h0
theorem c2 {w : World} {p0 p1 : Addr} {v0 v1 : Value} (h0 : w.cell? p0 = some v0) (h1 : w.cell? p1 = some v1) : ∀ w', Gr w w' → w'.cell? p0 = some v0 ∧ w'.cell? p1 = some v1 := fun _ g => ⟨g.cell h0, g.cell h1⟩
theorem c3 {w : World} {p0 p1 p2 : Addr} {v0 v1 v2 : Value} (h0 : w.cell? p0 = some v0) (h1 : w.cell? p1 = some v1) (h2 : w.cell? p2 = some v2) : ∀ w', Gr w w' → w'.cell? p0 = some v0 ∧ w'.cell? p1 = some v1 ∧ w'.cell? p2 = some v2 := fun _ g => ⟨g.cell h0, g.cell h1, g.cell h2⟩
theorem c4 {w : World} {p0 p1 p2 p3 : Addr} {v0 v1 v2 v3 : Value} (h0 : w.cell? p0 = some v0) (h1 : w.cell? p1 = some v1) (h2 : w.cell? p2 = some v2) (h3 : w.cell? p3 = some v3) : ∀ w', Gr w w' → w'.cell? p0 = some v0 ∧ w'.cell? p1 = some v1 ∧ w'.cell? p2 = some v2 ∧ w'.cell? p3 = some v3 := fun _ g => ⟨g.cell h0, g.cell h1, g.cell h2, g.cell h3⟩
theorem c5 {w : World} {p0 p1 p2 p3 p4 : Addr} {v0 v1 v2 v3 v4 : Value} (h0 : w.cell? p0 = some v0) (h1 : w.cell? p1 = some v1) (h2 : w.cell? p2 = some v2) (h3 : w.cell? p3 = some v3) (h4 : w.cell? p4 = some v4) : ∀ w', Gr w w' → w'.cell? p0 = some v0 ∧ w'.cell? p1 = some v1 ∧ w'.cell? p2 = some v2 ∧ w'.cell? p3 = some v3 ∧ w'.cell? p4 = some v4 := fun _ g => ⟨g.cell h0, g.cell h1, g.cell h2, g.cell h3, g.cell h4⟩
theorem c6 {w : World} {p0 p1 p2 p3 p4 p5 : Addr} {v0 v1 v2 v3 v4 v5 : Value} (h0 : w.cell? p0 = some v0) (h1 : w.cell? p1 = some v1) (h2 : w.cell? p2 = some v2) (h3 : w.cell? p3 = some v3) (h4 : w.cell? p4 = some v4) (h5 : w.cell? p5 = some v5) : ∀ w', Gr w w' → w'.cell? p0 = some v0 ∧ w'.cell? p1 = some v1 ∧ w'.cell? p2 = some v2 ∧ w'.cell? p3 = some v3 ∧ w'.cell? p4 = some v4 ∧ w'.cell? p5 = some v5 := fun _ g => ⟨g.cell h0, g.cell h1, g.cell h2, g.cell h3, g.cell h4, g.cell h5⟩
theorem c7 {w : World} {p0 p1 p2 p3 p4 p5 p6 : Addr} {v0 v1 v2 v3 v4 v5 v6 : Value} (h0 : w.cell? p0 = some v0) (h1 : w.cell? p1 = some v1) (h2 : w.cell? p2 = some v2) (h3 : w.cell? p3 = some v3) (h4 : w.cell? p4 = some v4) (h5 : w.cell? p5 = some v5) (h6 : w.cell? p6 = some v6) : ∀ w', Gr w w' → w'.cell? p0 = some v0 ∧ w'.cell? p1 = some v1 ∧ w'.cell? p2 = some v2 ∧ w'.cell? p3 = some v3 ∧ w'.cell? p4 = some v4 ∧ w'.cell? p5 = some v5 ∧ w'.cell? p6 = some v6 := fun _ g => ⟨g.cell h0, g.cell h1, g.cell h2, g.cell h3, g.cell h4, g.cell h5, g.cell h6⟩
end Go.Firn
namespace Go.Firn.Tb
section
variable {D : Type}
def plc (add : D → D → D) : List (List Int × D) → List Int → D → List (List Int × D)
 | [], v, d => [(v, d)]
 | x :: r, v, d => if x.1 < v then x :: plc add r v d else if x.1 = v then (x.1, add x.2 d) :: r else (v, d) :: x :: r
def gat (add : D → D → D) (L : List (List Int × D)) : List (List Int × D) := L.foldl (fun T x => plc add T x.1 x.2) []
def SrT (T : List (List Int × D)) : Prop := T.Pairwise fun x y => x.1 < y.1
def lk (v : List Int) : List (List Int × D) → Option D
 | [] => none
 | x :: r => if x.1 = v then some x.2 else lk v r
def fold1 (add : D → D → D) : List D → Option D
 | [] => none
 | d :: ds => some (ds.foldl add d)
theorem lk_cons (v : List Int) (x : List Int × D) (r) : lk v (x :: r) = if x.1 = v then some x.2 else lk v r := rfl
theorem tri {a b : List Int} (h : ¬ a < b) (k : ¬ a = b) : b < a := by
 rcases Classical.em (b < a) with h' | h'
 ·exact h'
 exact absurd (List.le_antisymm (List.not_lt.1 h') (List.not_lt.1 h)) k
theorem lt_ne {a b : List Int} (h : a < b) : a ≠ b := fun e => by subst e; exact List.lt_irrefl a h
theorem plc_keys (add : D → D → D) : ∀ (T : List (List Int × D)) (v : List Int) (d : D), ∀ x ∈ plc add T v d, x.1 = v ∨ ∃ y ∈ T, y.1 = x.1
 | [], v, d, x, hx => by simp [plc] at hx; subst hx; exact .inl rfl
 | y :: r, v, d, x, hx => by
  unfold plc at hx
  split at hx
  ·rcases List.mem_cons.1 hx with rfl | hx
   ·exact .inr ⟨_, List.mem_cons_self, rfl⟩
   rcases plc_keys add r v d x hx with h | ⟨z, hz, e⟩
   ·exact .inl h
   exact .inr ⟨z, List.mem_cons_of_mem _ hz, e⟩
  split at hx
  ·rcases List.mem_cons.1 hx with rfl | hx
   ·exact .inr ⟨y, List.mem_cons_self, rfl⟩
   exact .inr ⟨x, List.mem_cons_of_mem _ hx, rfl⟩
  rcases List.mem_cons.1 hx with rfl | hx
  ·exact .inl rfl
  exact .inr ⟨x, hx, rfl⟩
theorem plc_srt (add : D → D → D) : ∀ (T : List (List Int × D)) (v : List Int) (d : D), SrT T → SrT (plc add T v d)
 | [], v, d, _ => by simp [plc, SrT]
 | y :: r, v, d, h => by
  obtain ⟨h1, h2⟩ := List.pairwise_cons.1 h
  unfold plc
  split
  ·rename_i hv
   refine List.pairwise_cons.2 ⟨fun x hx => ?_, plc_srt add r v d h2⟩
   rcases plc_keys add r v d x hx with e | ⟨z, hz, e⟩
   ·rw [e]; exact hv
   rw [← e]; exact h1 z hz
  rename_i hv
  split
  ·exact List.pairwise_cons.2 ⟨h1, h2⟩
  rename_i hn
  have := tri hv hn
  refine List.pairwise_cons.2 ⟨fun x hx => ?_, h⟩
  rcases List.mem_cons.1 hx with rfl | hx
  ·exact this
  exact List.lt_trans this (h1 x hx)
theorem lk_none {v : List Int} : ∀ {T : List (List Int × D)}, (∀ x ∈ T, x.1 ≠ v) → lk v T = none
 | [], _ => rfl
 | x :: r, h => by
  unfold lk
  rw [if_neg (h x List.mem_cons_self)]
  exact lk_none fun y hy => h y (List.mem_cons_of_mem _ hy)
theorem lk_plc (add : D → D → D) (u : List Int) : ∀ (T : List (List Int × D)) (v : List Int) (d : D), SrT T →
  lk u (plc add T v d) = if v = u then some (match lk v T with | none => d | some e => add e d) else lk u T
 | [], v, d, _ => by simp [plc, lk]
 | y :: r, v, d, h => by
  obtain ⟨h1, h2⟩ := List.pairwise_cons.1 h
  unfold plc
  split
  ·rename_i hv
   have ih := lk_plc add u r v d h2
   have e1 : lk v (y :: r) = lk v r := by
    conv => lhs; unfold lk
    rw [if_neg (lt_ne hv)]
   rw [e1, lk_cons, lk_cons]
   by_cases hy : y.1 = u
   ·rw [if_pos hy, if_pos hy, if_neg]
    intro e; subst e; exact lt_ne hv hy
   rw [if_neg hy, if_neg hy]; exact ih
  rename_i hv
  split
  ·rename_i he
   subst he
   have e1 : lk y.1 (y :: r) = some y.2 := by unfold lk; rw [if_pos rfl]
   rw [e1]
   unfold lk
   by_cases hy : y.1 = u
   ·rw [if_pos hy, if_pos hy]
   rw [if_neg hy, if_neg hy, if_neg hy]
  rename_i hn
  have hlt := tri hv hn
  have e1 : lk v (y :: r) = none := lk_none fun x hx => by
   rcases List.mem_cons.1 hx with rfl | hx
   ·exact hn
   exact (lt_ne (List.lt_trans hlt (h1 x hx))).symm
  rw [e1]
  conv => lhs; unfold lk
theorem lk_mem {v : List Int} {d : D} : ∀ {T : List (List Int × D)}, lk v T = some d → (v, d) ∈ T
 | x :: r, h => by
  unfold lk at h
  split at h
  ·rename_i e
   cases h
   subst e
   exact List.mem_cons_self
  exact List.mem_cons_of_mem _ (lk_mem h)
theorem mem_lk {x : List Int × D} : ∀ {T : List (List Int × D)}, SrT T → x ∈ T → lk x.1 T = some x.2
 | y :: r, h, hx => by
  obtain ⟨h1, h2⟩ := List.pairwise_cons.1 h
  unfold lk
  rcases List.mem_cons.1 hx with rfl | hx
  ·rw [if_pos rfl]
  rw [if_neg (lt_ne (h1 x hx))]; exact mem_lk h2 hx
theorem lk_ext : ∀ {T T' : List (List Int × D)}, SrT T → SrT T' → (∀ v, lk v T = lk v T') → T = T'
 | [], [], _, _, _ => rfl
 | [], y :: r, _, _, h => by have := h y.1; simp [lk] at this
 | x :: r, [], _, _, h => by have := h x.1; simp [lk] at this
 | x :: r, y :: s, hT, hS, h => by
  obtain ⟨h1, h2⟩ := List.pairwise_cons.1 hT
  obtain ⟨k1, k2⟩ := List.pairwise_cons.1 hS
  have hx : x.1 = y.1 := by
   rcases Classical.em (x.1 = y.1) with e | e
   ·exact e
   exfalso
   have a1 := mem_lk hT (x := x) List.mem_cons_self
   have a2 := mem_lk hS (x := y) List.mem_cons_self
   rw [h x.1] at a1
   rw [← h y.1] at a2
   have b1 := lk_mem a1
   have b2 := lk_mem a2
   rcases List.mem_cons.1 b1 with b1 | b1
   ·exact e (by rw [← b1])
   rcases List.mem_cons.1 b2 with b2 | b2
   ·exact e (by rw [← b2])
   exact List.lt_irrefl _ (List.lt_trans (k1 _ b1) (h1 _ b2))
  have hd : x.2 = y.2 := by
   have := h x.1
   unfold lk at this
   rw [if_pos rfl, if_pos hx.symm] at this
   exact Option.some.inj this
  have exy : x = y := Prod.ext hx hd
  subst exy
  congr 1
  refine lk_ext h2 k2 fun v => ?_
  have := h v
  unfold lk at this
  by_cases e : x.1 = v
  ·rw [lk_none fun z hz => ?_, lk_none fun z hz => ?_]
   ·subst e; exact (lt_ne (k1 z hz)).symm
   subst e; exact (lt_ne (h1 z hz)).symm
  rwa [if_neg e, if_neg e] at this
theorem gat_snoc (add : D → D → D) (L : List (List Int × D)) (x : List Int × D) : gat add (L ++ [x]) = plc add (gat add L) x.1 x.2 := by simp [gat]
theorem snoc_ind {α : Type} {p : List α → Prop} (h0 : p []) (h1 : ∀ L x, p L → p (L ++ [x])) : ∀ L, p L := fun L => by
 have : ∀ n (L : List α), L.length = n → p L := by
  intro n
  induction n with
  | zero => intro L h; rw [List.length_eq_zero_iff.1 h]; exact h0
  | succ n ih =>
   intro L h
   have hne : L ≠ [] := fun e => by subst e; simp at h
   rw [← List.dropLast_concat_getLast hne]
   exact h1 _ _ (ih _ (by rw [List.length_dropLast]; omega))
 exact this _ L rfl
theorem gat_srt (add : D → D → D) (L : List (List Int × D)) : SrT (gat add L) := by
 refine snoc_ind (p := fun L => SrT (gat add L)) (by simp [gat, SrT]) (fun L x ih => ?_) L
 rw [gat_snoc]; exact plc_srt add _ _ _ ih
theorem gat_keys (add : D → D → D) (L : List (List Int × D)) : ∀ x ∈ gat add L, ∃ y ∈ L, y.1 = x.1 := by
 refine snoc_ind (p := fun L => ∀ x ∈ gat add L, ∃ y ∈ L, y.1 = x.1) (by simp [gat]) (fun L z ih x hx => ?_) L
 rw [gat_snoc] at hx
 rcases plc_keys add _ _ _ x hx with e | ⟨y, hy, e⟩
 ·exact ⟨z, by simp, e.symm⟩
 obtain ⟨y', h1, h2⟩ := ih y hy
 exact ⟨y', by simp [h1], by rw [h2, e]⟩
theorem fold1_snoc (add : D → D → D) (L : List D) (d : D) : fold1 add (L ++ [d]) = some (match fold1 add L with | none => d | some e => add e d) := by
 cases L with
 | nil => rfl
 | cons a r => simp [fold1]
theorem lk_gat (add : D → D → D) (v : List Int) (L : List (List Int × D)) : lk v (gat add L) = fold1 add ((L.filter fun x => x.1 = v).map (·.2)) := by
 refine snoc_ind (p := fun L => lk v (gat add L) = fold1 add ((L.filter fun x => x.1 = v).map (·.2))) (by simp [gat, lk, fold1]) (fun L x ih => ?_) L
 rw [gat_snoc, lk_plc add v _ _ _ (gat_srt add L), List.filter_append, List.map_append]
 by_cases e : x.1 = v
 ·rw [if_pos e]
  have e1 : (([x] : List (List Int × D)).filter fun x => x.1 = v) = [x] := by simp [e]
  rw [e1, List.map_singleton, fold1_snoc, e, ih]
 rw [if_neg e]
 have e1 : (([x] : List (List Int × D)).filter fun x => x.1 = v) = [] := by simp [e]
 rw [e1, List.map_nil, List.append_nil, ih]
theorem gat_congr (add : D → D → D) {L L' : List (List Int × D)} (h : ∀ v, (L.filter fun x => x.1 = v) = (L'.filter fun x => x.1 = v)) : gat add L = gat add L' :=
 lk_ext (gat_srt add L) (gat_srt add L') fun v => by rw [lk_gat, lk_gat, h v]
theorem plc_last (add : D → D → D) : ∀ (T : List (List Int × D)) (v : List Int) (d : D), (∀ x ∈ T, x.1 < v) → plc add T v d = T ++ [(v, d)]
 | [], _, _, _ => rfl
 | x :: r, v, d, h => by
  unfold plc
  rw [if_pos (h x List.mem_cons_self), plc_last add r v d fun y hy => h y (List.mem_cons_of_mem _ hy)]
  rfl
theorem plc_same (add : D → D → D) : ∀ (T : List (List Int × D)) (v : List Int) (e d : D), (∀ x ∈ T, x.1 < v) → plc add (T ++ [(v, e)]) v d = T ++ [(v, add e d)]
 | [], v, e, d, _ => by
  show plc add [(v, e)] v d = _
  unfold plc
  rw [if_neg (List.lt_irrefl v), if_pos rfl]; rfl
 | x :: r, v, e, d, h => by
  show plc add (x :: (r ++ [(v, e)])) v d = _
  unfold plc
  rw [if_pos (h x List.mem_cons_self), plc_same add r v e d fun y hy => h y (List.mem_cons_of_mem _ hy)]
  rfl
theorem gat_sorted (add : D → D → D) (L : List (List Int × D)) (h : SrT L) : gat add L = L := by
 revert h
 refine snoc_ind (p := fun L => SrT L → gat add L = L) (fun _ => rfl) (fun L x ih h => ?_) L
 obtain ⟨h1, _, h3⟩ := List.pairwise_append.1 h
 rw [gat_snoc, ih h1, plc_last]
 exact fun y hy => h3 y hy x (by simp)
theorem plc_all {p : D → Prop} (add : D → D → D) (hp : ∀ a b, p a → p b → p (add a b)) : ∀ (T : List (List Int × D)) (v : List Int) (d : D), (∀ x ∈ T, p x.2) → p d → ∀ x ∈ plc add T v d, p x.2
 | [], v, d, _, hd, x, hx => by simp [plc] at hx; subst hx; exact hd
 | y :: r, v, d, h, hd, x, hx => by
  have hr := fun z hz => h z (List.mem_cons_of_mem y hz)
  unfold plc at hx
  split at hx
  ·rcases List.mem_cons.1 hx with rfl | hx
   ·exact h _ List.mem_cons_self
   exact plc_all add hp r v d hr hd x hx
  split at hx
  ·rcases List.mem_cons.1 hx with rfl | hx
   ·exact hp _ _ (h y List.mem_cons_self) hd
   exact hr x hx
  rcases List.mem_cons.1 hx with rfl | hx
  ·exact hd
  exact h x hx
theorem gat_all {p : D → Prop} (add : D → D → D) (hp : ∀ a b, p a → p b → p (add a b)) (L : List (List Int × D)) : (∀ x ∈ L, p x.2) → ∀ x ∈ gat add L, p x.2 := by
 refine snoc_ind (p := fun L => (∀ x ∈ L, p x.2) → ∀ x ∈ gat add L, p x.2) (by simp [gat]) (fun L z ih h => ?_) L
 rw [gat_snoc]
 exact plc_all add hp _ _ _ (ih fun x hx => h x (by simp [hx])) (h z (by simp))
def sumT (μ : D → Nat) (T : List (List Int × D)) : Nat := (T.map fun x => μ x.2).sum
theorem sumT_cons (μ : D → Nat) (x : List Int × D) (T) : sumT μ (x :: T) = μ x.2 + sumT μ T := by simp [sumT]
theorem sumT_app (μ : D → Nat) (A B : List (List Int × D)) : sumT μ (A ++ B) = sumT μ A + sumT μ B := by simp [sumT]
theorem sumT_mem (μ : D → Nat) : ∀ {T : List (List Int × D)} {x}, x ∈ T → μ x.2 ≤ sumT μ T
 | y :: r, x, h => by
  rw [sumT_cons]
  rcases List.mem_cons.1 h with rfl | h
  ·omega
  have := sumT_mem μ h; omega
theorem plc_len (add : D → D → D) : ∀ (T : List (List Int × D)) (v : List Int) (d : D), (plc add T v d).length ≤ T.length + 1
 | [], v, d => by simp [plc]
 | y :: r, v, d => by
  unfold plc
  split
  ·have := plc_len add r v d; simp; omega
  split <;> simp
theorem gat_len (add : D → D → D) (L : List (List Int × D)) : (gat add L).length ≤ L.length := by
 refine snoc_ind (p := fun L => (gat add L).length ≤ L.length) (by simp [gat]) (fun L z ih => ?_) L
 rw [gat_snoc, List.length_append]
 have := plc_len add (gat add L) z.1 z.2
 simp
 omega
theorem stable_filter {n : Nat} {K : Nat → List Int} {I : List Nat} (hp : I.Perm (List.range n)) (hs : I.Pairwise fun i j => K i < K j ∨ K i = K j ∧ i < j) (v : List Int) :
  (I.filter fun i => K i = v) = ((List.range n).filter fun i => K i = v) := by
 refine List.Perm.eq_of_pairwise (le := fun i j => i < j) (fun a b _ _ h1 h2 => absurd h1 (by omega)) ?_ ?_ (hp.filter _)
 ·rw [List.pairwise_filter]
  refine hs.imp fun {i j} h hi hj => ?_
  simp only [decide_eq_true_eq] at hi hj
  rcases h with h | h
  ·rw [hi, hj] at h; exact absurd h (List.lt_irrefl v)
  exact h.2
 exact (List.pairwise_lt_range).filter _
theorem gat_stable (add : D → D → D) {n : Nat} {K : Nat → List Int} {V : Nat → D} {I : List Nat} (hp : I.Perm (List.range n)) (hs : I.Pairwise fun i j => K i < K j ∨ K i = K j ∧ i < j) :
  gat add (I.map fun i => (K i, V i)) = gat add ((List.range n).map fun i => (K i, V i)) := by
 refine gat_congr add fun v => ?_
 rw [List.filter_map, List.filter_map]
 have e : ((fun x : List Int × D => decide (x.1 = v)) ∘ fun i => (K i, V i)) = fun i => decide (K i = v) := rfl
 rw [e, stable_filter hp hs v]
end
end Go.Firn.Tb
