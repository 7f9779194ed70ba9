/- A region inside a fence, that of a round too, that draws its order: what yields its value in every world that meets a condition is taken first; behind all else the condition is shown anew. Contracts of chapter 7: which outcome comes first. Insertion sort on functions: the plain law. How many come before: the place of an outcome in a row in order. Contracts of chapter 7: a row of outcomes is put in order (insertion sort). Which outcome comes first: a strict order. Which outcome comes first: the order of the row. Sums along a row: the plain law of the curve, of the area and of the pairs. The area under the curve is the count of pairs: the plain law. The reference's row: each outcome stands behind as many as come before it. The plain law. Also: how far apart noise and signal are. -/
import Derived.OrdersHeld
import Derived.OrdersIn
import Derived.OwnWalkIn
import Derived.Test.YtohcnicadbpbbaaGreatDoorMB
import Derived.Test.YtohcnicadbpbbaaGreatDoorMA
namespace Go.Firn
open Go

section
variable {F : Fence} {n : Nat} {P : Program} {ops : Array Oper} {Q : Exit → Act → World → Prop} {md : Region.Mode} {S : World → Prop}

def noDeferB (ops : Array Oper) : Bool := ops.all fun o => match o.op with | .defer _ => false | _ => true
theorem noDefer_spec (h : noDeferB ops = true) {j : Nat} {o : Oper} (ho : ops[j]? = some o) (c : _) : o.op ≠ .defer c := fun e => by
  have := Array.all_eq_true'.1 h o (Array.mem_of_getElem? ho)
  rw [e] at this
  cases this

/-- In state a, in every world that meets S, o leaves v in its temporary and does nothing else; it may be about to call what the fence lets. -/
def YieldsHIn (F : Fence) (P : Program) (ops : Array Oper) (S : World → Prop) (o : Oper) (v : Value) (a : Act) : Prop :=
  YieldsIf P ops S o v a ∧ ∀ w f, o.about P w a.eval = some f → F.fn f

theorem YieldsHIn.wpOpIn {i : Nat} {o : Oper} {v : Value} {a : Act} (hnd : ∀ c, o.op ≠ .defer c) (hi : ops[i]? = some o) (hy : YieldsHIn F P ops S o v a)
    {K : Act → World → Prop} {w : World} (hS : S w) (h : K (a.put o.dst v) w) : wpOpIn F n P ops Q i K a w := by
  unfold Go.wpOpIn
  simp only [hi]
  rcases hy.1 with ⟨hw, hv⟩ | ⟨hw, rfl⟩
  · simp only [hw, if_true, Oper.wpIn, Oper.semAt_plain F _ _ hnd, hv w hS, Oper.uponIn]; exact ⟨hy.2 w, h⟩
  · simp only [hw, Bool.false_eq_true, if_false]; exact ⟨hy.2 w, h⟩

theorem YieldsHIn.of_same {o : Oper} {v : Value} {a a' : Act} (hy : YieldsHIn F P ops S o v a) (he : execOp a'.eval o = execOp a.eval o)
    (hw : Region.wanted o (yielded ops a'.tmps) = Region.wanted o (yielded ops a.tmps)) (hb : ∀ w, o.about P w a'.eval = o.about P w a.eval) : YieldsHIn F P ops S o v a' :=
  ⟨hy.1.of_same he hw, fun w f hf => hy.2 w f (by rw [← hb w]; exact hf)⟩

theorem wpOpIn_putH {j : Nat} {oi oj : Oper} {v : Value} (hnd : ∀ c, oj.op ≠ .defer c) (hj : ops[j]? = some oj) (hap : oi.apart ops oj = true)
    (hsi : ∀ cs b, oi.op ≠ .select cs b) (hsj : ∀ cs b, oj.op ≠ .select cs b)
    (hQ : ∀ c a w, Q (.panic c) (a.put oi.dst v) w → Q (.panic c) a w) {K : Act → World → Prop} {a : Act} {w : World}
    (hy : YieldsHIn F P ops S oi v a) (h : wpOpIn F n P ops Q j K (a.put oi.dst v) w) :
    wpOpIn F n P ops Q j (fun a' w' => YieldsHIn F P ops S oi v a' ∧ K (a'.put oi.dst v) w') a w := by
  obtain ⟨h1, h2, h3⟩ := Oper.apart_spec hap
  have keep : ∀ (a : Act), YieldsHIn F P ops S oi v a → ∀ u, YieldsHIn F P ops S oi v (a.put oj.dst u) := fun a hy u =>
    hy.of_same (execOp_put oi hsi a oj.dst u h3) (wanted_put oi a oj.dst u h3) (fun w => about_put oi w a oj.dst u h3)
  have keepD : ∀ d, YieldsHIn F P ops S oi v { a with defers := d :: a.defers } := fun d => hy.of_same rfl rfl (fun _ => rfl)
  unfold wpOpIn at *
  simp only [hj] at *
  rw [wanted_put oj a oi.dst v h1, about_put oj w a oi.dst v h1] at h
  split
  · rename_i hw
    simp only [hw, if_true] at h
    unfold Oper.wpIn at *
    rw [about_put oj w a oi.dst v h1] at h
    refine ⟨h.1, ?_⟩
    have h := h.2
    rw [Oper.semAt_plain F _ _ hnd, execOp_put oj hsj a oi.dst v h1] at h
    rw [Oper.semAt_plain F _ _ hnd]
    generalize (execOp a.eval oj).run P w = r at *
    cases r with
    | ok x w' =>
      cases x <;> simp only [Oper.uponIn] at h ⊢
      case value u => exact ⟨keep a hy u, by rw [← Act.put_comm a v u h2]; exact h⟩
      case skip => exact ⟨keep a hy _, by rw [← Act.put_comm a v undef h2]; exact h⟩
      case defer d =>
        refine ⟨keep _ (keepD d) _, ?_⟩
        rw [← Act.put_comm _ v undef h2, ← Act.put_defers]
        exact h
      case enter f args =>
        refine ⟨h.1, CallsIn.mono h.2 fun e w'' he => ?_⟩
        cases e with
        | returned u => exact ⟨keep a hy u, by rw [← Act.put_comm a v u h2]; exact he⟩
        | panicked c => exact hQ _ _ _ he
        | outgrown => exact he
      case row row args => exact ⟨h.1, RowsIn.mono h.2 fun u w'' he => ⟨keep a hy u, by rw [← Act.put_comm a v u h2]; exact he⟩⟩
      case round l f tmps assign body =>
        refine ⟨h.1, RoundIn.mono h.2 fun e w'' he => ?_⟩
        cases e with
        | returned u => exact ⟨keep a hy u, by rw [← Act.put_comm a v u h2]; exact he⟩
        | panicked c => exact hQ _ _ _ he
        | outgrown => exact he
    | halt x w' =>
      cases x <;> simp only [Oper.uponIn] at h ⊢
      case panic u => exact hQ _ _ _ h
  · rename_i hw
    simp only [hw] at h
    exact ⟨h.1, keep a hy _, by rw [← Act.put_comm a v undef h2]; exact h.2⟩

/-- Whatever order is picked from here on, and S holds behind every operation that is carried out. -/
def wpAnyHIn (F : Fence) (n : Nat) (P : Program) (md : Region.Mode) (ops : Array Oper) (Q : Exit → Act → World → Prop) (S : World → Prop) : Nat → Array Bool → Act → World → Prop
  | 0, listed, a, w => Region.ready md ops listed = [] ∧ Q .normal a w
  | fuel + 1, listed, a, w =>
    (Region.ready md ops listed = [] → Q .normal a w) ∧
    ∀ i ∈ Region.ready md ops listed, wpOpIn F n P ops Q i (fun a' w' => S w' ∧ wpAnyHIn F n P md ops Q S fuel (listed.setIfInBounds i true) a' w') a w
theorem wpAnyIn_of_held : ∀ (fuel : Nat) (listed : Array Bool) (a : Act) (w : World), wpAnyHIn F n P md ops Q S fuel listed a w → wpAnyIn F n P md ops Q fuel listed a w
  | 0, _, _, _, h => h
  | fuel + 1, _, _, _, h => ⟨h.1, fun i hi => wpOpIn_mono (fun a' w' h' => wpAnyIn_of_held fuel _ a' w' h'.2) (h.2 i hi)⟩

theorem wpAnyHIn_first {i : Nat} {oi : Oper} {v : Value} (hnd : noDeferB ops = true) (hi : ops[i]? = some oi) (hsel : ∀ (j : Nat) (o : Oper) cs b, ops[j]? = some o → o.op ≠ .select cs b)
    (hQ : ∀ c a w, Q (.panic c) (a.put oi.dst v) w → Q (.panic c) a w) :
    ∀ (fuel : Nat) (listed : Array Bool) (a : Act) (w : World),
      (∀ j oj, ops[j]? = some oj → j ≠ i → listed.getD j true = false → (∀ e ∈ oj.after, Region.binds md e = true → e.on ≠ i) → oi.apart ops oj = true) →
      i ∈ Region.ready md ops listed → YieldsHIn F P ops S oi v a → S w →
      wpAnyHIn F n P md ops Q S fuel (listed.setIfInBounds i true) (a.put oi.dst v) w → wpAnyHIn F n P md ops Q S (fuel + 1) listed a w := by
  intro fuel
  induction fuel with
  | zero =>
    intro listed a w _ hr hy hS H
    refine ⟨fun h => (by rw [h] at hr; cases hr), fun j hj => ?_⟩
    by_cases hji : j = i
    · subst hji; exact hy.wpOpIn (noDefer_spec hnd hi) hi hS ⟨hS, H⟩
    · have := ready_mono hj hji
      rw [H.1] at this
      cases this
  | succ fuel ih =>
    intro listed a w hfree hr hy hS H
    refine ⟨fun h => (by rw [h] at hr; cases hr), fun j hj => ?_⟩
    by_cases hji : j = i
    · subst hji; exact hy.wpOpIn (noDefer_spec hnd hi) hi hS ⟨hS, H⟩
    · have h1 := H.2 j (ready_mono hj hji)
      obtain ⟨hjun, oj, hoj, hall⟩ := mem_ready.1 hj
      have hnot : ∀ e ∈ oj.after, Region.binds md e = true → e.on ≠ i := fun e he hb heq => by
        have h1 := hall e he hb
        have h0 := (mem_ready.1 hr).1
        rw [heq] at h1
        rcases Nat.lt_or_ge i listed.size with h' | h'
        · simp [h'] at h0 h1; rw [h0] at h1; cases h1
        · simp [Array.getElem?_eq_none h'] at h1
      have h2 := wpOpIn_putH (noDefer_spec hnd hoj) hoj (hfree j oj hoj hji hjun hnot) (fun cs b => hsel i oi cs b hi) (fun cs b => hsel j oj cs b hoj) hQ hy h1
      have hfree' : ∀ k ok, ops[k]? = some ok → k ≠ i → (listed.setIfInBounds j true).getD k true = false →
          (∀ e ∈ ok.after, Region.binds md e = true → e.on ≠ i) → oi.apart ops ok = true := fun k ok hk hki hun hno => by
        refine hfree k ok hk hki ?_ hno
        by_cases hjk : j = k
        · subst hjk; exact hjun
        · rw [getD_set_ne true hjk] at hun; exact hun
      refine wpOpIn_mono (fun a' w' h3 => ⟨h3.2.1, ih (listed.setIfInBounds j true) a' w' hfree' (ready_mono hr (Ne.symm hji)) h3.1 h3.2.1 ?_⟩) h2
      rw [Array.setIfInBounds_comm _ _ hji]
      exact h3.2.2

/-- Take number i first. -/
theorem wpAnyHIn_take (i : Nat) {l : List Oper} {oi : Oper} {v : Value} {fuel : Nat} {listed : Array Bool} {a : Act} {w : World} (hi : l[i]? = some oi) (hnd : noDeferB l.toArray = true)
    (hs : Region.noSelect l.toArray = true) (hf : Region.free md l.toArray listed i = true) (hr : (Region.ready md l.toArray listed).contains i = true)
    (hQ : ∀ c a w, Q (.panic c) (a.put oi.dst v) w → Q (.panic c) a w) (hb : ∀ w f, oi.about P w a.eval = some f → F.fn f) (hw : Region.wanted oi (yielded l.toArray a.tmps) = true) (hy : ∀ w, S w → (execOp a.eval oi).run P w = .ok (.value v) w) (hS : S w)
    (h : wpAnyHIn F n P md l.toArray Q S fuel (listed.setIfInBounds i true) (a.put oi.dst v) w) : wpAnyHIn F n P md l.toArray Q S (fuel + 1) listed a w :=
  have hi' : l.toArray[i]? = some oi := by simpa using hi
  wpAnyHIn_first hnd hi' (Region.noSelect_spec hs) hQ fuel listed a w (Region.free_spec hi' hf) (by simpa using hr) ⟨.inl ⟨hw, hy⟩, hb⟩ hS h
/-- Take number i first, which its guard strikes. -/
theorem wpAnyHIn_skip (i : Nat) {l : List Oper} {oi : Oper} {fuel : Nat} {listed : Array Bool} {a : Act} {w : World} (hi : l[i]? = some oi) (hnd : noDeferB l.toArray = true)
    (hs : Region.noSelect l.toArray = true) (hf : Region.free md l.toArray listed i = true) (hr : (Region.ready md l.toArray listed).contains i = true)
    (hQ : ∀ c a w, Q (.panic c) (a.put oi.dst undef) w → Q (.panic c) a w) (hb : ∀ w f, oi.about P w a.eval = some f → F.fn f) (hw : Region.wanted oi (yielded l.toArray a.tmps) = false) (hS : S w)
    (h : wpAnyHIn F n P md l.toArray Q S fuel (listed.setIfInBounds i true) (a.put oi.dst undef) w) : wpAnyHIn F n P md l.toArray Q S (fuel + 1) listed a w :=
  have hi' : l.toArray[i]? = some oi := by simpa using hi
  wpAnyHIn_first hnd hi' (Region.noSelect_spec hs) hQ fuel listed a w (Region.free_spec hi' hf) (by simpa using hr) ⟨.inr ⟨hw, rfl⟩, hb⟩ hS h

/-- Each of the operations rs comes up next; behind it S holds, and the rest goes in whatever order. -/
def AllHIn (F : Fence) (n : Nat) (P : Program) (md : Region.Mode) (ops : Array Oper) (Q : Exit → Act → World → Prop) (S : World → Prop) (fuel : Nat) (listed : Array Bool) (a : Act) (w : World) (rs : List Nat) : Prop :=
  ∀ i ∈ rs, wpOpIn F n P ops Q i (fun a' w' => S w' ∧ wpAnyHIn F n P md ops Q S fuel (listed.setIfInBounds i true) a' w') a w
theorem AllHIn.nil {fuel : Nat} {listed : Array Bool} {a : Act} {w : World} : AllHIn F n P md ops Q S fuel listed a w [] := fun _ h => by cases h
def Lid (p : Prop) : Prop := p
theorem Lid.out {p : Prop} (h : Lid p) : p := h
theorem AllHIn.cons {fuel : Nat} {listed : Array Bool} {a : Act} {w : World} {i : Nat} {l : List Oper} {o : Oper} {rs : List Nat} (ho : l[i]? = some o) (hw : Region.wanted o (yielded l.toArray a.tmps) = true)
    (h : ∀ K' : Act → World → Prop, Lid (∀ a w, S w → wpAnyHIn F n P md l.toArray Q S fuel (listed.setIfInBounds i true) a w → K' a w) → Oper.wpIn F n P o a w K' Q)
    (hs : AllHIn F n P md l.toArray Q S fuel listed a w rs) : AllHIn F n P md l.toArray Q S fuel listed a w (i :: rs) := fun j hj => by
  rcases List.mem_cons.1 hj with rfl | hj
  · refine wpOpIn_step (show l.toArray[_]? = some o by simpa using ho) fun K' hK => ?_
    rw [if_pos hw]
    exact h K' (fun a w hS hW => hK a w ⟨hS, hW⟩)
  · exact hs j hj
theorem wpAnyHIn_ready (rs : List Nat) {fuel : Nat} {listed : Array Bool} {a : Act} {w : World} (hr : Region.ready md ops listed = rs) (hne : rs ≠ [])
    (h : AllHIn F n P md ops Q S fuel listed a w rs) : wpAnyHIn F n P md ops Q S (fuel + 1) listed a w := ⟨fun h0 => absurd (hr ▸ h0) hne, hr ▸ h⟩
theorem wpAnyHIn_done {listed : Array Bool} {a : Act} {w : World} (hr : Region.ready md ops listed = []) (h : Q .normal a w) :
    ∀ fuel, wpAnyHIn F n P md ops Q S fuel listed a w
  | 0 => ⟨hr, h⟩
  | _ + 1 => ⟨fun _ => h, by rw [hr]; simp⟩
theorem wpIn_region_held (S : World → Prop) (k : Nat) {listed : List Bool} {id : Nat} {a : Act} {w : World} (hm : P.follows .mixedOrders = true) (hk : ops.size = k) (hl : List.replicate k false = listed)
    (h : wpAnyHIn F n P .any ops Q S k listed.toArray a w.drew) : (Code.region id ops true).wpIn F n P Q a w :=
  wpIn_region_any hm (wpAnyIn_of_held _ _ _ _ (by subst hk; subst hl; rw [List.toArray_replicate] at h; exact h))
end

end Go.Firn

namespace Go.Proofs.YtohcnicadbpbbaaGreatDoor
open Go.RowKit Go.Firn

/-- Which outcome comes first: below 0, if the first does. -/
def cmpO (f g : Nat → Int) (i j : Nat) : Int := orI (cmpI (nth f g i) (nth f g j)) (cmpI (g j * f i) (g i * f j))

theorem cf73 (args : Array Value) (wz : World) : (callFunc 68 args).run Tryz.prog wz = .ok (.enter 68 args) wz := by kernel_rfl

theorem cell_new2a (w : World) (p q : Int) (e : TypeId) : (w.alloc (.cells #[.int .i64 p, .int .i64 q] e)).cell? ⟨w.heap.size, 0, none⟩ = some (.int .i64 p) := (cell_new2 w p q e).1
theorem cell_new2b (w : World) (p q : Int) (e : TypeId) : (w.alloc (.cells #[.int .i64 p, .int .i64 q] e)).cell? ⟨w.heap.size, 0 + 1, none⟩ = some (.int .i64 q) := (cell_new2 w p q e).2

set_option maxRecDepth 100000 in
set_option maxHeartbeats 8000000 in
theorem compare_any (a a2 : Option Addr) (n c d : Nat) (f g : Nat → Int) (i j : Nat) (u v : Value) (w : World) (hi : i < n) (hj : j < n) (hr : RdI w a n f) (hs : RdI w a2 n g)
    (hf : ∀ k, k < n → 0 ≤ f k ∧ f k ≤ 1000) (hg : ∀ k, k < n → 0 ≤ g k ∧ g k ≤ 1000) :
    Calls Tryz.prog 48 #[.agg #[.slice a n c, .slice a2 n d, u, v], .int .i64 i, .int .i64 j] w fun e w' => e = .returned (.int .i64 (cmpO f g i j)) ∧ Gr w w' := by
  obtain ⟨W0, hW0⟩ : ∃ W0, w.alloc (.cells #[.slice a n c, .slice a2 n d, u, v] 57) = W0 := ⟨_, rfl⟩
  have G0 := Lib.hid (show Gr w W0 by rw [← hW0]; exact (Gr.refl w).alloc _)
  have B := Lib.hid (show Box4 W0 w.heap.size (.slice a n c) (.slice a2 n d) u v by rw [← hW0]; exact Box4.new rfl)
  have hmf : ∀ (fn : Fn) (first cap : Array Value) (w : World), (Instr.makeFunc fn first cap).run Tryz.prog w = .ok (.func fn first cap) w := fun _ _ _ _ => rfl
  have HR := Lib.hid (hr.gr G0.out)
  have HS := Lib.hid (hs.gr G0.out)
  have C1 := Lib.hid (fun w' (k : Gr W0 w') => (compare1_any a a2 n c d w.heap.size f g i u v w' hi (HR.out.gr k) (HS.out.gr k) (hf i hi) (hg i hi) (B.out.gr k)).mono (R' := fun e w'' => e = .returned (.int .i64 (nth f g i)) ∧ Gr w' w'') (fun e w'' ⟨h1, m, h2⟩ => ⟨h1, by rw [h2]; exact (Gr.refl w').drewN m⟩))
  have C2 := Lib.hid (fun w' (k : Gr W0 w') => (compare1_any a a2 n c d w.heap.size f g j u v w' hj (HR.out.gr k) (HS.out.gr k) (hf j hj) (hg j hj) (B.out.gr k)).mono (R' := fun e w'' => e = .returned (.int .i64 (nth f g j)) ∧ Gr w' w'') (fun e w'' ⟨h1, m, h2⟩ => ⟨h1, by rw [h2]; exact (Gr.refl w').drewN m⟩))
  obtain ⟨b1, o1, e1, hc1⟩ := HR.out.at hi
  obtain ⟨b2, o2, e2, hc2⟩ := HS.out.at hi
  have f1 := hc1 i hi
  have f2 := hc1 j hj
  have g1 := hc2 i hi
  have g2 := hc2 j hj
  have i1 : (i : Int) < n := by omega
  have j1 : (j : Int) < n := by omega
  obtain ⟨p0, p1, p2, p3, _⟩ := B.out
  have E := Lib.hid (show cmpO f g i j = orI (cmpI (nth f g i) (nth f g j)) (cmpI (g j * f i) (g i * f j)) from rfl)
  have m1 := mul_bd (a := g j) (b := f i) (A := 1000) (B := 1000) (by have := hg j hj; omega) (hg j hj).2 (by have := hf i hi; omega) (hf i hi).2
  have m2 := mul_bd (a := g i) (b := f j) (A := 1000) (B := 1000) (by have := hg i hi; omega) (hg i hi).2 (by have := hf j hj; omega) (hf j hj).2
  have q1 : IntKind.i64.wrap (g j * f i) = g j * f i := IntWalk.i64_in _ (by omega)
  have q2 : IntKind.i64.wrap (g i * f j) = g i * f j := IntWalk.i64_in _ (by omega)
  rw [E.out]
  clear hc1 hc2 hr hs hf hg m1 m2 E HR HS
  subst e1
  subst e2
  generalize nth f g i = s at *
  generalize nth f g j = t at *
  generalize f i = fi at *
  generalize f j = fj at *
  generalize g i = gi at *
  generalize g j = gj at *
  go_enter Tryz.func48, Tryz.ntmps48
  go_wp2_with fail
  clear p2 p3 hW0 B
  refine (wpIn_wide (n := 3)).1 ?_
  refine wpIn_region_held (fun w' => Gr W0 w') 37 (by kernel_rfl) rfl rfl ?_
  have hS : Gr W0 W0.drew := (Gr.refl W0).drew
  iterate 30 (first
    | (refine wpAnyHIn_take 0 (v := ?_) rfl (by kernel_rfl) (by kernel_rfl) (by kernel_rfl) (by decide +kernel) (fun _ _ _ h => h) (fun _ _ _ => trivial) (by rfl) (fun w' hSw => ?_) hS ?_; rotate_left 1; (focus (have z0 := hSw.cell p0; have z1 := hSw.cell p1; have z2 := hSw.cell f1; have z3 := hSw.cell f2; have z4 := hSw.cell g1; have z5 := hSw.cell g2; go_simp; try with_reducible rfl)); simp only [Act.put, List.setIfInBounds_toArray, List.set_cons_zero, List.set_cons_succ])
    | (refine wpAnyHIn_take 1 (v := ?_) rfl (by kernel_rfl) (by kernel_rfl) (by kernel_rfl) (by decide +kernel) (fun _ _ _ h => h) (fun _ _ _ => trivial) (by rfl) (fun w' hSw => ?_) hS ?_; rotate_left 1; (focus (have z0 := hSw.cell p0; have z1 := hSw.cell p1; have z2 := hSw.cell f1; have z3 := hSw.cell f2; have z4 := hSw.cell g1; have z5 := hSw.cell g2; go_simp; try with_reducible rfl)); simp only [Act.put, List.setIfInBounds_toArray, List.set_cons_zero, List.set_cons_succ])
    | (refine wpAnyHIn_take 3 (v := ?_) rfl (by kernel_rfl) (by kernel_rfl) (by kernel_rfl) (by decide +kernel) (fun _ _ _ h => h) (fun _ _ _ => trivial) (by rfl) (fun w' hSw => ?_) hS ?_; rotate_left 1; (focus (have z0 := hSw.cell p0; have z1 := hSw.cell p1; have z2 := hSw.cell f1; have z3 := hSw.cell f2; have z4 := hSw.cell g1; have z5 := hSw.cell g2; go_simp; try with_reducible rfl)); simp only [Act.put, List.setIfInBounds_toArray, List.set_cons_zero, List.set_cons_succ])
    | (refine wpAnyHIn_take 4 (v := ?_) rfl (by kernel_rfl) (by kernel_rfl) (by kernel_rfl) (by decide +kernel) (fun _ _ _ h => h) (fun _ _ _ => trivial) (by rfl) (fun w' hSw => ?_) hS ?_; rotate_left 1; (focus (have z0 := hSw.cell p0; have z1 := hSw.cell p1; have z2 := hSw.cell f1; have z3 := hSw.cell f2; have z4 := hSw.cell g1; have z5 := hSw.cell g2; go_simp; try with_reducible rfl)); simp only [Act.put, List.setIfInBounds_toArray, List.set_cons_zero, List.set_cons_succ])
    | (refine wpAnyHIn_take 7 (v := ?_) rfl (by kernel_rfl) (by kernel_rfl) (by kernel_rfl) (by decide +kernel) (fun _ _ _ h => h) (fun _ _ _ => trivial) (by rfl) (fun w' hSw => ?_) hS ?_; rotate_left 1; (focus (have z0 := hSw.cell p0; have z1 := hSw.cell p1; have z2 := hSw.cell f1; have z3 := hSw.cell f2; have z4 := hSw.cell g1; have z5 := hSw.cell g2; go_simp; try with_reducible rfl)); simp only [Act.put, List.setIfInBounds_toArray, List.set_cons_zero, List.set_cons_succ])
    | (refine wpAnyHIn_take 8 (v := ?_) rfl (by kernel_rfl) (by kernel_rfl) (by kernel_rfl) (by decide +kernel) (fun _ _ _ h => h) (fun _ _ _ => trivial) (by rfl) (fun w' hSw => ?_) hS ?_; rotate_left 1; (focus (have z0 := hSw.cell p0; have z1 := hSw.cell p1; have z2 := hSw.cell f1; have z3 := hSw.cell f2; have z4 := hSw.cell g1; have z5 := hSw.cell g2; go_simp; try with_reducible rfl)); simp only [Act.put, List.setIfInBounds_toArray, List.set_cons_zero, List.set_cons_succ])
    | (refine wpAnyHIn_take 9 (v := ?_) rfl (by kernel_rfl) (by kernel_rfl) (by kernel_rfl) (by decide +kernel) (fun _ _ _ h => h) (fun _ _ _ => trivial) (by rfl) (fun w' hSw => ?_) hS ?_; rotate_left 1; (focus (have z0 := hSw.cell p0; have z1 := hSw.cell p1; have z2 := hSw.cell f1; have z3 := hSw.cell f2; have z4 := hSw.cell g1; have z5 := hSw.cell g2; go_simp; try with_reducible rfl)); simp only [Act.put, List.setIfInBounds_toArray, List.set_cons_zero, List.set_cons_succ])
    | (refine wpAnyHIn_take 10 (v := ?_) rfl (by kernel_rfl) (by kernel_rfl) (by kernel_rfl) (by decide +kernel) (fun _ _ _ h => h) (fun _ _ _ => trivial) (by rfl) (fun w' hSw => ?_) hS ?_; rotate_left 1; (focus (have z0 := hSw.cell p0; have z1 := hSw.cell p1; have z2 := hSw.cell f1; have z3 := hSw.cell f2; have z4 := hSw.cell g1; have z5 := hSw.cell g2; go_simp; try with_reducible rfl)); simp only [Act.put, List.setIfInBounds_toArray, List.set_cons_zero, List.set_cons_succ])
    | (refine wpAnyHIn_take 11 (v := ?_) rfl (by kernel_rfl) (by kernel_rfl) (by kernel_rfl) (by decide +kernel) (fun _ _ _ h => h) (fun _ _ _ => trivial) (by rfl) (fun w' hSw => ?_) hS ?_; rotate_left 1; (focus (have z0 := hSw.cell p0; have z1 := hSw.cell p1; have z2 := hSw.cell f1; have z3 := hSw.cell f2; have z4 := hSw.cell g1; have z5 := hSw.cell g2; go_simp; try with_reducible rfl)); simp only [Act.put, List.setIfInBounds_toArray, List.set_cons_zero, List.set_cons_succ])
    | (refine wpAnyHIn_take 12 (v := ?_) rfl (by kernel_rfl) (by kernel_rfl) (by kernel_rfl) (by decide +kernel) (fun _ _ _ h => h) (fun _ _ _ => trivial) (by rfl) (fun w' hSw => ?_) hS ?_; rotate_left 1; (focus (have z0 := hSw.cell p0; have z1 := hSw.cell p1; have z2 := hSw.cell f1; have z3 := hSw.cell f2; have z4 := hSw.cell g1; have z5 := hSw.cell g2; go_simp; try with_reducible rfl)); simp only [Act.put, List.setIfInBounds_toArray, List.set_cons_zero, List.set_cons_succ])
    | (refine wpAnyHIn_take 13 (v := ?_) rfl (by kernel_rfl) (by kernel_rfl) (by kernel_rfl) (by decide +kernel) (fun _ _ _ h => h) (fun _ _ _ => trivial) (by rfl) (fun w' hSw => ?_) hS ?_; rotate_left 1; (focus (have z0 := hSw.cell p0; have z1 := hSw.cell p1; have z2 := hSw.cell f1; have z3 := hSw.cell f2; have z4 := hSw.cell g1; have z5 := hSw.cell g2; go_simp; try with_reducible rfl)); simp only [Act.put, List.setIfInBounds_toArray, List.set_cons_zero, List.set_cons_succ])
    | (refine wpAnyHIn_take 14 (v := ?_) rfl (by kernel_rfl) (by kernel_rfl) (by kernel_rfl) (by decide +kernel) (fun _ _ _ h => h) (fun _ _ _ => trivial) (by rfl) (fun w' hSw => ?_) hS ?_; rotate_left 1; (focus (have z0 := hSw.cell p0; have z1 := hSw.cell p1; have z2 := hSw.cell f1; have z3 := hSw.cell f2; have z4 := hSw.cell g1; have z5 := hSw.cell g2; go_simp; try with_reducible rfl)); simp only [Act.put, List.setIfInBounds_toArray, List.set_cons_zero, List.set_cons_succ])
    | (refine wpAnyHIn_take 15 (v := ?_) rfl (by kernel_rfl) (by kernel_rfl) (by kernel_rfl) (by decide +kernel) (fun _ _ _ h => h) (fun _ _ _ => trivial) (by rfl) (fun w' hSw => ?_) hS ?_; rotate_left 1; (focus (have z0 := hSw.cell p0; have z1 := hSw.cell p1; have z2 := hSw.cell f1; have z3 := hSw.cell f2; have z4 := hSw.cell g1; have z5 := hSw.cell g2; go_simp; try with_reducible rfl)); simp only [Act.put, List.setIfInBounds_toArray, List.set_cons_zero, List.set_cons_succ])
    | (refine wpAnyHIn_take 16 (v := ?_) rfl (by kernel_rfl) (by kernel_rfl) (by kernel_rfl) (by decide +kernel) (fun _ _ _ h => h) (fun _ _ _ => trivial) (by rfl) (fun w' hSw => ?_) hS ?_; rotate_left 1; (focus (have z0 := hSw.cell p0; have z1 := hSw.cell p1; have z2 := hSw.cell f1; have z3 := hSw.cell f2; have z4 := hSw.cell g1; have z5 := hSw.cell g2; go_simp; try with_reducible rfl)); simp only [Act.put, List.setIfInBounds_toArray, List.set_cons_zero, List.set_cons_succ])
    | (refine wpAnyHIn_take 17 (v := ?_) rfl (by kernel_rfl) (by kernel_rfl) (by kernel_rfl) (by decide +kernel) (fun _ _ _ h => h) (fun _ _ _ => trivial) (by rfl) (fun w' hSw => ?_) hS ?_; rotate_left 1; (focus (have z0 := hSw.cell p0; have z1 := hSw.cell p1; have z2 := hSw.cell f1; have z3 := hSw.cell f2; have z4 := hSw.cell g1; have z5 := hSw.cell g2; go_simp; try with_reducible rfl)); simp only [Act.put, List.setIfInBounds_toArray, List.set_cons_zero, List.set_cons_succ])
    | (refine wpAnyHIn_take 18 (v := ?_) rfl (by kernel_rfl) (by kernel_rfl) (by kernel_rfl) (by decide +kernel) (fun _ _ _ h => h) (fun _ _ _ => trivial) (by rfl) (fun w' hSw => ?_) hS ?_; rotate_left 1; (focus (have z0 := hSw.cell p0; have z1 := hSw.cell p1; have z2 := hSw.cell f1; have z3 := hSw.cell f2; have z4 := hSw.cell g1; have z5 := hSw.cell g2; go_simp; try with_reducible rfl)); simp only [Act.put, List.setIfInBounds_toArray, List.set_cons_zero, List.set_cons_succ])
    | (refine wpAnyHIn_take 19 (v := ?_) rfl (by kernel_rfl) (by kernel_rfl) (by kernel_rfl) (by decide +kernel) (fun _ _ _ h => h) (fun _ _ _ => trivial) (by rfl) (fun w' hSw => ?_) hS ?_; rotate_left 1; (focus (have z0 := hSw.cell p0; have z1 := hSw.cell p1; have z2 := hSw.cell f1; have z3 := hSw.cell f2; have z4 := hSw.cell g1; have z5 := hSw.cell g2; go_simp; try with_reducible rfl)); simp only [Act.put, List.setIfInBounds_toArray, List.set_cons_zero, List.set_cons_succ])
    | (refine wpAnyHIn_take 20 (v := ?_) rfl (by kernel_rfl) (by kernel_rfl) (by kernel_rfl) (by decide +kernel) (fun _ _ _ h => h) (fun _ _ _ => trivial) (by rfl) (fun w' hSw => ?_) hS ?_; rotate_left 1; (focus (have z0 := hSw.cell p0; have z1 := hSw.cell p1; have z2 := hSw.cell f1; have z3 := hSw.cell f2; have z4 := hSw.cell g1; have z5 := hSw.cell g2; go_simp; try with_reducible rfl)); simp only [Act.put, List.setIfInBounds_toArray, List.set_cons_zero, List.set_cons_succ])
    | (refine wpAnyHIn_take 21 (v := ?_) rfl (by kernel_rfl) (by kernel_rfl) (by kernel_rfl) (by decide +kernel) (fun _ _ _ h => h) (fun _ _ _ => trivial) (by rfl) (fun w' hSw => ?_) hS ?_; rotate_left 1; (focus (have z0 := hSw.cell p0; have z1 := hSw.cell p1; have z2 := hSw.cell f1; have z3 := hSw.cell f2; have z4 := hSw.cell g1; have z5 := hSw.cell g2; go_simp; try with_reducible rfl)); simp only [Act.put, List.setIfInBounds_toArray, List.set_cons_zero, List.set_cons_succ])
    | (refine wpAnyHIn_take 22 (v := ?_) rfl (by kernel_rfl) (by kernel_rfl) (by kernel_rfl) (by decide +kernel) (fun _ _ _ h => h) (fun _ _ _ => trivial) (by rfl) (fun w' hSw => ?_) hS ?_; rotate_left 1; (focus (have z0 := hSw.cell p0; have z1 := hSw.cell p1; have z2 := hSw.cell f1; have z3 := hSw.cell f2; have z4 := hSw.cell g1; have z5 := hSw.cell g2; go_simp; try with_reducible rfl)); simp only [Act.put, List.setIfInBounds_toArray, List.set_cons_zero, List.set_cons_succ])
    | (refine wpAnyHIn_take 23 (v := ?_) rfl (by kernel_rfl) (by kernel_rfl) (by kernel_rfl) (by decide +kernel) (fun _ _ _ h => h) (fun _ _ _ => trivial) (by rfl) (fun w' hSw => ?_) hS ?_; rotate_left 1; (focus (have z0 := hSw.cell p0; have z1 := hSw.cell p1; have z2 := hSw.cell f1; have z3 := hSw.cell f2; have z4 := hSw.cell g1; have z5 := hSw.cell g2; go_simp; try with_reducible rfl)); simp only [Act.put, List.setIfInBounds_toArray, List.set_cons_zero, List.set_cons_succ])
    | (refine wpAnyHIn_take 24 (v := ?_) rfl (by kernel_rfl) (by kernel_rfl) (by kernel_rfl) (by decide +kernel) (fun _ _ _ h => h) (fun _ _ _ => trivial) (by rfl) (fun w' hSw => ?_) hS ?_; rotate_left 1; (focus (have z0 := hSw.cell p0; have z1 := hSw.cell p1; have z2 := hSw.cell f1; have z3 := hSw.cell f2; have z4 := hSw.cell g1; have z5 := hSw.cell g2; go_simp; try with_reducible rfl)); simp only [Act.put, List.setIfInBounds_toArray, List.set_cons_zero, List.set_cons_succ])
    | (refine wpAnyHIn_take 25 (v := ?_) rfl (by kernel_rfl) (by kernel_rfl) (by kernel_rfl) (by decide +kernel) (fun _ _ _ h => h) (fun _ _ _ => trivial) (by rfl) (fun w' hSw => ?_) hS ?_; rotate_left 1; (focus (have z0 := hSw.cell p0; have z1 := hSw.cell p1; have z2 := hSw.cell f1; have z3 := hSw.cell f2; have z4 := hSw.cell g1; have z5 := hSw.cell g2; go_simp; try with_reducible rfl)); simp only [Act.put, List.setIfInBounds_toArray, List.set_cons_zero, List.set_cons_succ])
    | (refine wpAnyHIn_take 26 (v := ?_) rfl (by kernel_rfl) (by kernel_rfl) (by kernel_rfl) (by decide +kernel) (fun _ _ _ h => h) (fun _ _ _ => trivial) (by rfl) (fun w' hSw => ?_) hS ?_; rotate_left 1; (focus (have z0 := hSw.cell p0; have z1 := hSw.cell p1; have z2 := hSw.cell f1; have z3 := hSw.cell f2; have z4 := hSw.cell g1; have z5 := hSw.cell g2; go_simp; try with_reducible rfl)); simp only [Act.put, List.setIfInBounds_toArray, List.set_cons_zero, List.set_cons_succ])
    | (refine wpAnyHIn_take 27 (v := ?_) rfl (by kernel_rfl) (by kernel_rfl) (by kernel_rfl) (by decide +kernel) (fun _ _ _ h => h) (fun _ _ _ => trivial) (by rfl) (fun w' hSw => ?_) hS ?_; rotate_left 1; (focus (have z0 := hSw.cell p0; have z1 := hSw.cell p1; have z2 := hSw.cell f1; have z3 := hSw.cell f2; have z4 := hSw.cell g1; have z5 := hSw.cell g2; go_simp; try with_reducible rfl)); simp only [Act.put, List.setIfInBounds_toArray, List.set_cons_zero, List.set_cons_succ])
    | (refine wpAnyHIn_take 28 (v := ?_) rfl (by kernel_rfl) (by kernel_rfl) (by kernel_rfl) (by decide +kernel) (fun _ _ _ h => h) (fun _ _ _ => trivial) (by rfl) (fun w' hSw => ?_) hS ?_; rotate_left 1; (focus (have z0 := hSw.cell p0; have z1 := hSw.cell p1; have z2 := hSw.cell f1; have z3 := hSw.cell f2; have z4 := hSw.cell g1; have z5 := hSw.cell g2; go_simp; try with_reducible rfl)); simp only [Act.put, List.setIfInBounds_toArray, List.set_cons_zero, List.set_cons_succ])
    | (refine wpAnyHIn_take 29 (v := ?_) rfl (by kernel_rfl) (by kernel_rfl) (by kernel_rfl) (by decide +kernel) (fun _ _ _ h => h) (fun _ _ _ => trivial) (by rfl) (fun w' hSw => ?_) hS ?_; rotate_left 1; (focus (have z0 := hSw.cell p0; have z1 := hSw.cell p1; have z2 := hSw.cell f1; have z3 := hSw.cell f2; have z4 := hSw.cell g1; have z5 := hSw.cell g2; go_simp; try with_reducible rfl)); simp only [Act.put, List.setIfInBounds_toArray, List.set_cons_zero, List.set_cons_succ])
    | (refine wpAnyHIn_take 30 (v := ?_) rfl (by kernel_rfl) (by kernel_rfl) (by kernel_rfl) (by decide +kernel) (fun _ _ _ h => h) (fun _ _ _ => trivial) (by rfl) (fun w' hSw => ?_) hS ?_; rotate_left 1; (focus (have z0 := hSw.cell p0; have z1 := hSw.cell p1; have z2 := hSw.cell f1; have z3 := hSw.cell f2; have z4 := hSw.cell g1; have z5 := hSw.cell g2; go_simp; try with_reducible rfl)); simp only [Act.put, List.setIfInBounds_toArray, List.set_cons_zero, List.set_cons_succ])
    | (refine wpAnyHIn_take 31 (v := ?_) rfl (by kernel_rfl) (by kernel_rfl) (by kernel_rfl) (by decide +kernel) (fun _ _ _ h => h) (fun _ _ _ => trivial) (by rfl) (fun w' hSw => ?_) hS ?_; rotate_left 1; (focus (have z0 := hSw.cell p0; have z1 := hSw.cell p1; have z2 := hSw.cell f1; have z3 := hSw.cell f2; have z4 := hSw.cell g1; have z5 := hSw.cell g2; go_simp; try with_reducible rfl)); simp only [Act.put, List.setIfInBounds_toArray, List.set_cons_zero, List.set_cons_succ])
    | (refine wpAnyHIn_take 32 (v := ?_) rfl (by kernel_rfl) (by kernel_rfl) (by kernel_rfl) (by decide +kernel) (fun _ _ _ h => h) (fun _ _ _ => trivial) (by rfl) (fun w' hSw => ?_) hS ?_; rotate_left 1; (focus (have z0 := hSw.cell p0; have z1 := hSw.cell p1; have z2 := hSw.cell f1; have z3 := hSw.cell f2; have z4 := hSw.cell g1; have z5 := hSw.cell g2; go_simp; try with_reducible rfl)); simp only [Act.put, List.setIfInBounds_toArray, List.set_cons_zero, List.set_cons_succ]))
  refine wpAnyHIn_ready [2] (by kernel_rfl) (by simp) ?_
  refine AllHIn.cons rfl (by rfl) (fun K hK => ?_) AllHIn.nil
  go_simp
  refine ⟨trivial, ?_⟩
  refine (callsIn_wide.2 (C1.out _ hS)).mono ?_
  rintro e wX ⟨rfl, gX⟩
  have hS : Gr W0 wX := hS.trans gX
  refine hK.out _ _ hS ?_
  clear hK K gX
  refine wpAnyHIn_ready [5] (by kernel_rfl) (by simp) ?_
  refine AllHIn.cons rfl (by rfl) (fun K hK => ?_) AllHIn.nil
  go_simp
  refine ⟨trivial, ?_⟩
  refine (callsIn_wide.2 (C2.out _ hS)).mono ?_
  rintro e wX ⟨rfl, gX⟩
  have hS : Gr W0 wX := hS.trans gX
  refine hK.out _ _ hS ?_
  clear hK K gX
  refine wpAnyHIn_ready [6] (by kernel_rfl) (by simp) ?_
  refine AllHIn.cons rfl (by rfl) (fun K hK => ?_) AllHIn.nil
  go_simp
  refine ⟨trivial, ?_⟩
  refine (callsIn_wide.2 (Compare_any _ _ _)).mono ?_
  rintro e wX ⟨rfl, rfl⟩
  refine hK.out _ _ hS ?_
  clear hK K
  refine wpAnyHIn_ready [33] (by kernel_rfl) (by simp) ?_
  refine AllHIn.cons rfl (by rfl) (fun K hK => ?_) AllHIn.nil
  go_simp
  refine ⟨trivial, ?_⟩
  refine (callsIn_wide.2 (Compare_any _ _ _)).mono ?_
  rintro e wX ⟨rfl, rfl⟩
  refine hK.out _ _ hS ?_
  clear hK K
  refine wpAnyHIn_ready [34] (by kernel_rfl) (by simp) ?_
  refine AllHIn.cons rfl (by rfl) (fun K hK => ?_) AllHIn.nil
  go_simp
  refine hK.out _ _ (hS.alloc _) ?_
  have hS : Gr W0 (wX.alloc (.cells #[.int .i64 (cmpI s t), .int .i64 (cmpI (gj * fi) (gi * fj))] 3)) := hS.alloc _
  clear hK K
  refine wpAnyHIn_ready [35] (by kernel_rfl) (by simp) ?_
  refine AllHIn.cons rfl (by rfl) (fun K hK => ?_) AllHIn.nil
  go_simp
  refine ⟨trivial, ?_⟩
  refine (callsIn_wide.2 (Or_any _ 0 _ _ _ (cell_new2a _ _ _ _) (cell_new2b _ _ _ _))).mono ?_
  rintro e wZ ⟨rfl, rfl⟩
  refine hK.out _ _ hS ?_
  clear hK K
  iterate 1 (first
    | (refine wpAnyHIn_take 36 (v := ?_) rfl (by kernel_rfl) (by kernel_rfl) (by kernel_rfl) (by decide +kernel) (fun _ _ _ h => h) (fun _ _ _ => trivial) (by rfl) (fun w' hSw => ?_) hS ?_; rotate_left 1; (focus (skip; go_simp; try with_reducible rfl)); simp only [Act.put, List.setIfInBounds_toArray, List.set_cons_zero, List.set_cons_succ]))
  refine wpAnyHIn_done (by kernel_rfl) ?_ _
  clear p0 p1 f1 f2 g1 g2
  go_wp2_with fail
  go_ret
  exact ⟨rfl, G0.out.trans hS⟩

end Go.Proofs.YtohcnicadbpbbaaGreatDoor

namespace Go.Proofs.YtohcnicadbpbbaaGreatDoor

/-- The exchange of j - 1 and j. -/
def swp (R : Nat → Nat) (j p : Nat) : Nat := if p = j then R (j - 1) else if p = j - 1 then R j else R p
/-- What stands at j goes down as long as it comes first. -/
def insI (lt : Nat → Nat → Bool) : Nat → (Nat → Nat) → Nat → Nat
  | 0, R => R
  | j + 1, R => if lt (R (j + 1)) (R j) then insI lt j (swp R (j + 1)) else R
/-- The first i are in order: all others are put in. -/
def insO (lt : Nat → Nat → Bool) : Nat → Nat → (Nat → Nat) → Nat → Nat
  | 0, _, R => R
  | m + 1, i, R => insO lt m (i + 1) (insI lt i R)

theorem insI_succ (lt : Nat → Nat → Bool) (j : Nat) (R : Nat → Nat) : insI lt (j + 1) R = if lt (R (j + 1)) (R j) then insI lt j (swp R (j + 1)) else R := rfl
theorem swp_hi (R : Nat → Nat) (j : Nat) : swp R (j + 1) (j + 1) = R j := by simp [swp]
theorem swp_lo (R : Nat → Nat) (j : Nat) : swp R (j + 1) j = R (j + 1) := by simp [swp]
theorem swp_far (R : Nat → Nat) {j p : Nat} (h1 : p ≠ j + 1) (h2 : p ≠ j) : swp R (j + 1) p = R p := by simp [swp, h1, h2]

/-- Above j nothing turns. -/
theorem insI_far (lt : Nat → Nat → Bool) : ∀ (j : Nat) (R : Nat → Nat) (p : Nat), j < p → insI lt j R p = R p
  | 0, _, _, _ => rfl
  | j + 1, R, p, h => by
    rw [insI_succ]
    split
    · rw [insI_far lt j _ p (by omega), swp_far R (by omega) (by omega)]
    · rfl

/-- The first j and what stands at j, put in: in order, if those were. -/
theorem insI_sorted {lt : Nat → Nat → Bool} (tr : ∀ a b c, lt a b = true → lt b c = true → lt a c = true) (tot : ∀ a b, lt a b = false → a ≠ b → lt b a = true) :
    ∀ (j : Nat) (R : Nat → Nat), (∀ p, p + 1 < j → lt (R p) (R (p + 1)) = true) → (∀ p, p < j → R p ≠ R j) → ∀ p, p < j → lt (insI lt j R p) (insI lt j R (p + 1)) = true
  | 0, _, _, _, _, h => by omega
  | j + 1, R, hs, hd, p, hp => by
    rw [insI_succ]
    split
    · rename_i hl
      have hs' : ∀ q, q + 1 < j → lt (swp R (j + 1) q) (swp R (j + 1) (q + 1)) = true := fun q hq => by
        rw [swp_far R (by omega) (by omega), swp_far R (by omega) (by omega)]; exact hs q (by omega)
      have hd' : ∀ q, q < j → swp R (j + 1) q ≠ swp R (j + 1) j := fun q hq => by
        rw [swp_far R (by omega) (by omega), swp_lo]; exact hd q (by omega)
      rcases Nat.lt_or_ge p j with h | h
      · exact insI_sorted tr tot j _ hs' hd' p h
      · obtain rfl : p = j := by omega
        rw [insI_far lt p _ (p + 1) (by omega), swp_hi]
        cases p with
        | zero => show lt (swp R (0 + 1) 0) (R 0) = true; rw [swp_lo]; exact hl
        | succ k =>
          rw [insI_succ]
          split
          · rw [insI_far lt k _ (k + 1) (by omega), swp_hi, swp_far R (by omega) (by omega)]
            exact hs k (by omega)
          · rw [swp_lo]; exact hl
    · rename_i hl
      rcases Nat.lt_or_ge (p + 1) (j + 1) with h | h
      · exact hs p h
      · obtain rfl : p = j := by omega
        exact tot _ _ (by simpa using hl) (fun e => hd p (by omega) e.symm)

/-- Only the comparisons of what is put in count. -/
theorem insI_congr {lt lt' : Nat → Nat → Bool} : ∀ (j : Nat) (R : Nat → Nat), (∀ p, p < j → lt (R j) (R p) = lt' (R j) (R p)) → insI lt j R = insI lt' j R
  | 0, _, _ => rfl
  | j + 1, R, h => by
    rw [insI_succ, insI_succ, ← h j (by omega)]
    split
    · refine insI_congr j _ fun p hp => ?_
      rw [swp_lo, swp_far R (by omega) (by omega)]
      exact h p (by omega)
    · rfl

/-- No two of the first n are the same. -/
def Inj (n : Nat) (R : Nat → Nat) : Prop := ∀ p q, p < n → q < n → R p = R q → p = q
theorem inj_swp {n j : Nat} {R : Nat → Nat} (h : Inj n R) (hj : j + 1 < n) : Inj n (swp R (j + 1)) := by
  have key : ∀ p, ∃ q, swp R (j + 1) p = R q ∧ ((p = j + 1 ∧ q = j) ∨ (p = j ∧ q = j + 1) ∨ (p ≠ j + 1 ∧ p ≠ j ∧ q = p)) := fun p => by
    by_cases h1 : p = j + 1
    · exact ⟨j, by rw [h1, swp_hi], .inl ⟨h1, rfl⟩⟩
    · by_cases h2 : p = j
      · exact ⟨j + 1, by rw [h2, swp_lo], .inr (.inl ⟨h2, rfl⟩)⟩
      · exact ⟨p, swp_far R h1 h2, .inr (.inr ⟨h1, h2, rfl⟩)⟩
  intro p q hp hq e
  obtain ⟨p', e1, h1⟩ := key p
  obtain ⟨q', e2, h2⟩ := key q
  have := h p' q' (by omega) (by omega) (by rw [← e1, ← e2, e])
  omega
theorem insI_inj (lt : Nat → Nat → Bool) {n : Nat} : ∀ (j : Nat) (R : Nat → Nat), j < n → Inj n R → Inj n (insI lt j R)
  | 0, _, _, h => h
  | j + 1, R, hj, h => by
    rw [insI_succ]
    split
    · exact insI_inj lt j _ (by omega) (inj_swp h hj)
    · exact h
/-- What bounds the first values bounds them still. -/
theorem insI_bd (lt : Nat → Nat → Bool) {B : Nat} : ∀ (j : Nat) (R : Nat → Nat), (∀ p, p ≤ j → R p < B) → ∀ p, p ≤ j → insI lt j R p < B
  | 0, _, h, p, hp => h p hp
  | j + 1, R, h, p, hp => by
    rw [insI_succ]
    split
    · rcases Nat.lt_or_ge j p with h1 | h1
      · rw [insI_far lt j _ p h1, show p = j + 1 by omega, swp_hi]; exact h j (by omega)
      · refine insI_bd lt j _ (fun q hq => ?_) p h1
        by_cases h2 : q = j
        · rw [h2, swp_lo]; exact h (j + 1) (by omega)
        · rw [swp_far R (by omega) h2]; exact h q (by omega)
    · exact h p hp

/-- The first i of n are in order, the others as they were. -/
structure Ord (bef : Nat → Nat → Bool) (n i : Nat) (R : Nat → Nat) : Prop where
  inj : Inj n R
  bd : ∀ p, p < i → R p < i
  rest : ∀ p, i ≤ p → R p = p
  up : ∀ p, p + 1 < i → bef (R p) (R (p + 1)) = true
theorem Ord.start (bef : Nat → Nat → Bool) (n : Nat) : Ord bef n 1 id :=
  ⟨fun _ _ _ _ e => e, fun p hp => hp, fun _ _ => rfl, fun p hp => by omega⟩
theorem Ord.step {lt bef : Nat → Nat → Bool} (tr : ∀ a b c, bef a b = true → bef b c = true → bef a c = true) (tot : ∀ a b, bef a b = false → a ≠ b → bef b a = true)
    (hl : ∀ a b, b < a → lt a b = bef a b) {n i : Nat} {R : Nat → Nat} (h : Ord bef n i R) (hi : i < n) : Ord bef n (i + 1) (insI lt i R) := by
  have hR := h.rest i (Nat.le_refl i)
  have e : insI lt i R = insI bef i R := insI_congr i R fun p hp => by rw [hR]; exact hl _ _ (h.bd p hp)
  rw [e]
  refine ⟨insI_inj bef i R hi h.inj, fun p hp => insI_bd bef i R (fun q hq => ?_) p (by omega), fun p hp => ?_, fun p hp => ?_⟩
  · rcases Nat.lt_or_ge q i with h1 | h1
    · have := h.bd q h1; omega
    · rw [show q = i by omega, hR]; omega
  · rw [insI_far bef i R p (by omega)]; exact h.rest p (by omega)
  · refine insI_sorted tr tot i R h.up (fun q hq e => ?_) p (by omega)
    have := h.bd q hq
    omega
theorem Ord.all {lt bef : Nat → Nat → Bool} (tr : ∀ a b c, bef a b = true → bef b c = true → bef a c = true) (tot : ∀ a b, bef a b = false → a ≠ b → bef b a = true)
    (hl : ∀ a b, b < a → lt a b = bef a b) {n : Nat} : ∀ (m i : Nat) (R : Nat → Nat), m + i = n → Ord bef n i R → Ord bef n n (insO lt m i R)
  | 0, i, R, e, h => by rw [show n = i by omega] at *; exact h
  | m + 1, i, R, e, h => Ord.all tr tot hl m (i + 1) _ (by omega) (h.step tr tot hl (by omega))

end Go.Proofs.YtohcnicadbpbbaaGreatDoor

namespace Go.Proofs.YtohcnicadbpbbaaGreatDoor

/-- How many of the first n are so. -/
def cntP (q : Nat → Bool) : Nat → Nat
  | 0 => 0
  | k + 1 => cntP q k + (if q k then 1 else 0)
theorem cntP_congr {q q' : Nat → Bool} : ∀ {n : Nat}, (∀ b, b < n → q b = q' b) → cntP q n = cntP q' n
  | 0, _ => rfl
  | n + 1, h => by
    show cntP q n + _ = cntP q' n + _
    rw [cntP_congr (fun b hb => h b (by omega)), h n (by omega)]
theorem cntP_lt (p : Nat) : ∀ (n : Nat), p ≤ n → cntP (fun b => decide (b < p)) n = p
  | 0, h => by rw [Nat.le_zero.1 h]; rfl
  | n + 1, h => by
    show cntP (fun b => decide (b < p)) n + _ = p
    rcases Nat.lt_or_ge n p with h1 | h1
    · have e : cntP (fun b => decide (b < p)) n = n := by
        have := cntP_congr (q := fun b => decide (b < p)) (q' := fun b => decide (b < n)) (n := n) (fun b hb => by simp; omega)
        rw [this]; exact cntP_lt n n (Nat.le_refl n)
      rw [e]
      simp [h1]
      omega
    · rw [cntP_lt p n h1]
      simp
      omega

theorem cntP_swp (q : Nat → Bool) (R : Nat → Nat) {j : Nat} : ∀ {n : Nat}, j + 1 < n → cntP (fun p => q (swp R (j + 1) p)) n = cntP (fun p => q (R p)) n
  | 0, h => by omega
  | n + 1, h => by
    show cntP (fun p => q (swp R (j + 1) p)) n + (if q (swp R (j + 1) n) then 1 else 0) = cntP (fun p => q (R p)) n + (if q (R n) then 1 else 0)
    rcases Nat.lt_or_ge (j + 1) n with h1 | h1
    · rw [cntP_swp q R h1, swp_far R (by omega) (by omega)]
    · obtain rfl : n = j + 1 := by omega
      rw [swp_hi]
      show cntP (fun p => q (swp R (j + 1) p)) j + (if q (swp R (j + 1) j) then 1 else 0) + _ = cntP (fun p => q (R p)) j + (if q (R j) then 1 else 0) + _
      rw [swp_lo, cntP_congr (q := fun p => q (swp R (j + 1) p)) (q' := fun p => q (R p)) (n := j) (fun b hb => by rw [swp_far R (by omega) (by omega)])]
      omega
theorem insI_cnt (q : Nat → Bool) (lt : Nat → Nat → Bool) {n : Nat} : ∀ (j : Nat) (R : Nat → Nat), j < n → cntP (fun p => q (insI lt j R p)) n = cntP (fun p => q (R p)) n
  | 0, _, _ => rfl
  | j + 1, R, h => by
    rw [insI_succ]
    split
    · rw [insI_cnt q lt j _ (by omega), cntP_swp q R h]
    · rfl
theorem insO_cnt (q : Nat → Bool) (lt : Nat → Nat → Bool) {n : Nat} : ∀ (m i : Nat) (R : Nat → Nat), m + i = n → cntP (fun p => q (insO lt m i R p)) n = cntP (fun p => q (R p)) n
  | 0, _, _, _ => rfl
  | m + 1, i, R, h => by
    show cntP (fun p => q (insO lt m (i + 1) (insI lt i R) p)) n = _
    rw [insO_cnt q lt m (i + 1) _ (by omega), insI_cnt q lt i R (by omega)]

theorem Ord.lt {bef : Nat → Nat → Bool} (tr : ∀ a b c, bef a b = true → bef b c = true → bef a c = true) {n i : Nat} {R : Nat → Nat} (h : Ord bef n i R) (p : Nat) :
    ∀ (r : Nat), p < r → r < i → bef (R p) (R r) = true
  | 0, hp, _ => by omega
  | r + 1, hp, hr => by
    rcases Nat.lt_or_ge p r with h1 | h1
    · exact tr _ _ _ (Ord.lt tr h p r h1 (by omega)) (h.up r hr)
    · rw [show p = r by omega]; exact h.up r hr

/-- The place of an outcome is the count of those before it. -/
theorem place {lt bef : Nat → Nat → Bool} (tr : ∀ a b c, bef a b = true → bef b c = true → bef a c = true) (tot : ∀ a b, bef a b = false → a ≠ b → bef b a = true) (irr : ∀ a, bef a a = false)
    (hl : ∀ a b, b < a → lt a b = bef a b) {n p : Nat} (hp : p < n) : cntP (fun b => bef b (insO lt (n - 1) 1 id p)) n = p := by
  have O := Ord.all tr tot hl (n - 1) 1 id (by omega) (Ord.start bef n)
  have e := insO_cnt (fun b => bef b (insO lt (n - 1) 1 id p)) lt (n := n) (n - 1) 1 id (by omega)
  refine e.symm.trans ?_
  clear e
  generalize insO lt (n - 1) 1 id = R at *
  rw [cntP_congr (q' := fun b => decide (b < p)) (fun b hb => ?_)]
  · exact cntP_lt p n (by omega)
  · rcases Nat.lt_trichotomy b p with h | h | h
    · rw [O.lt tr b p h hp]; simp [h]
    · rw [h, irr]; simp
    · have e := O.lt tr p b h hb
      cases e2 : bef (R b) (R p) with
      | false => simp; omega
      | true => have := tr _ _ _ e e2; rw [irr] at this; cases this

end Go.Proofs.YtohcnicadbpbbaaGreatDoor

namespace Go.Firn
open Go.RowKit
theorem Wr.of_gr {bb : Nat} {a b : World} (h : Gr a b) : Wr bb a b := ⟨h.os, h.tape, h.output, Gr.size h, fun k hk _ => Below.block h k hk⟩
end Go.Firn
namespace Go.Proofs.YtohcnicadbpbbaaGreatDoor
open Go.RowKit Go.Firn

/-- The row in block b holds R 0, R 1, .. and may be written. -/
def RowN (w : World) (b m : Nat) (R : Nat → Nat) : Prop := ∀ p, p < m → w.cell? ⟨b, p, none⟩ = some (.int .i64 (R p)) ∧ w.frozen? ⟨b, p, none⟩ = false
theorem RowN.gr {w w' : World} {b m : Nat} {R : Nat → Nat} (h : RowN w b m R) (g : Gr w w') : RowN w' b m R :=
  fun p hp => ⟨g.cell (h p hp).1, (Below.frozen g (World.block_lt_of_cell? w _ (h p hp).1)).trans (h p hp).2⟩
theorem RowN.swap {w : World} {b m : Nat} {R : Nat → Nat} (h : RowN w b m R) {J j : Nat} (hJ : J = j + 1) (hj : J < m) :
    RowN ((w.setCell ⟨b, J, none⟩ (.int .i64 (R j))).setCell ⟨b, j, none⟩ (.int .i64 (R J))) b m (swp R J) := by
  subst hJ
  intro p hp
  refine ⟨?_, by simpa using (h p hp).2⟩
  by_cases h1 : p = j + 1
  · subst h1
    rw [swp_hi]
    exact cell_by (cell_near (h _ hp).1 _) (by omega) _
  · by_cases h2 : p = j
    · subst h2
      rw [swp_lo]
      exact cell_near (cell_by (h _ hp).1 (by omega) _) _
    · rw [swp_far R h1 h2]
      exact cell_by (cell_by (h _ hp).1 (by omega) _) (by omega) _

theorem cf52 (args : Array Value) (wz : World) : (callFunc 48 args).run Tryz.prog wz = .ok (.enter 48 args) wz := by kernel_rfl

theorem swp_bd {R : Nat → Nat} {m n J : Nat} (h : ∀ p, p < m → R p < n) (hJ : J < m) : ∀ p, p < m → swp R J p < n := fun p hp => by
  unfold swp
  repeat' split
  · exact h _ (by omega)
  · exact h _ hJ
  · exact h _ hp

set_option maxRecDepth 100000 in
set_option maxHeartbeats 8000000 in
theorem ins_any (a a2 : Option Addr) (n c d : Nat) (f g : Nat → Int) (u v : Value) (b cap m : Nat) (R : Nat → Nat) (w0 w : World) (hm : m ≤ 1000) (g0 : Gr w0 w) (hb : w0.heap.size ≤ b)
    (hr : RdI w0 a n f) (hs : RdI w0 a2 n g) (hf : ∀ k, k < n → 0 ≤ f k ∧ f k ≤ 1000) (hg : ∀ k, k < n → 0 ≤ g k ∧ g k ≤ 1000) (hR : ∀ p, p < m → R p < n) (hw : RowN w b m R) :
    Calls Tryz.prog 96 #[.slice (some ⟨b, 0, none⟩) m cap, .int .i64 0, .int .i64 m, .func (.func 48) #[.agg #[.slice a n c, .slice a2 n d, u, v]] #[]] w fun e w' =>
      e = .returned (.tuple #[]) ∧ Wr b w w' ∧ RowN w' b m (insO (fun i j => decide (cmpO f g i j < 0)) (m - 1) 1 R) := by
  have CC := Lib.hid (fun (w' : World) (k : Gr w0 w') (i j : Nat) (hi : i < n) (hj : j < n) => compare_any a a2 n c d f g i j u v w' hi hj (hr.gr k) (hs.gr k) hf hg)
  obtain ⟨lt, hlt⟩ : ∃ lt : Nat → Nat → Bool, lt = fun i j => decide (cmpO f g i j < 0) := ⟨_, rfl⟩
  have HL := Lib.hid (show ∀ i j, lt i j = decide (cmpO f g i j < 0) by intro i j; rw [hlt])
  rw [← hlt]
  have HW := Lib.hid hw
  have HRn := Lib.hid hR
  have H0 := Lib.hid (show ∀ w', Wr b w w' → Gr w0 w' from fun w' k => k.gr g0 hb)
  clear hlt hr hs hf hg hw hR g0 hb
  go_enter Tryz.func96, Tryz.ntmps96
  go_wp2_with fail
  go_loopw [8] (fun i wr => ∃ (k : Nat) (R1 : Nat → Nat), i = .int .i64 k ∧ Hid (1 ≤ k ∧ (k ≤ m ∨ k = 1)) ∧ Hid (Wr b w wr) ∧ Hid (RowN wr b m R1) ∧ Hid (∀ p, p < m → R1 p < n) ∧ Hid (insO lt (m - k) k R1 = insO lt (m - 1) 1 R)) (fun i _ => m - (intOf i).toNat)
  case atStart => exact ⟨1, R, rfl, Lib.hid ⟨by omega, .inr rfl⟩, Lib.hid (Wr.refl _ _), HW, HRn, Lib.hid rfl⟩
  case round =>
    obtain ⟨k, R1, rfl, hk, HW1, HR1, HB1, HE1⟩ := hrel
    by_cases hlk : k < m
    · have hlki : (k : Int) < (m : Int) := by omega
      go_wp2_with fail
      go_loopw [9] (fun j wr' => ∃ (J : Nat) (R2 : Nat → Nat), j = .int .i64 J ∧ Hid (J ≤ k) ∧ Hid (Wr b w wr') ∧ Hid (RowN wr' b m R2) ∧ Hid (∀ p, p < m → R2 p < n) ∧ Hid (insI lt J R2 = insI lt k R1)) (fun j _ => (intOf j).toNat)
      case atStart => exact ⟨k, R1, rfl, Lib.hid (Nat.le_refl _), HW1, HR1, HB1, Lib.hid rfl⟩
      case round =>
        clear HW1 HR1 HB1
        obtain ⟨J, R2, rfl, hJ, HW2, HR2, HB2, HE2⟩ := hrel
        by_cases hJ0 : J = 0
        · subst hJ0
          go_wp2_with fail
          go_quiet (fail)
          go_wp2_with fail
          go_roundw
          case rel => exact ⟨k + 1, R2, by go_num, Lib.hid ⟨by omega, .inl (by omega)⟩, Lib.hid (HW2.out.drewN _), HR2, HB2, Lib.hid (by rw [← HE1.out, show m - k = (m - (k + 1)) + 1 by omega]; show _ = insO lt (m - (k + 1)) (k + 1) (insI lt k R1); rw [← HE2.out]; rfl)⟩
          case measure => simp [intOf]; omega
        · obtain ⟨jp, hjp⟩ : ∃ jp, J = jp + 1 := ⟨J - 1, by omega⟩
          have HJ := Lib.hid hjp
          have hJ1 := hJ.out
          have q1 : (0 : Int) < (J : Int) := by omega
          have q5 : 0 < J := by omega
          have q2 : IntKind.i64.wrap ((J : Int) - 1) = (jp : Int) := by rw [show (J : Int) - 1 = jp by omega]; exact IntWalk.i64_in _ (by omega)
          have q3 : (J : Int) < (m : Int) := by omega
          have q4 : (jp : Int) < (m : Int) := by omega
          obtain ⟨cj, fj⟩ := HR2.out J (by omega)
          obtain ⟨cp, fp⟩ := HR2.out jp (by omega)
          have HC := Lib.hid (fun w' (k : Gr wr w') => CC.out w' (H0.out w' (HW2.out.trans (Wr.of_gr k))) (R2 J) (R2 jp) (HB2.out _ (by omega)) (HB2.out _ (by omega)))
          have HE3 := Lib.hid (show insI lt J R2 = if lt (R2 J) (R2 jp) then insI lt jp (swp R2 J) else R2 by rw [hjp]; exact insI_succ lt jp R2)
          clear hjp hJ0 hJ1
          go_wp2_with fail
          refine (wpIn_wide (n := 3)).1 ?_
          refine wpIn_region_held (fun w' => Gr wr w') 17 (by kernel_rfl) rfl rfl ?_
          have hS : Gr wr wr.drew := (Gr.refl wr).drew
          iterate 14 (first
            | (refine wpAnyHIn_take 0 (v := ?_) rfl (by kernel_rfl) (by kernel_rfl) (by kernel_rfl) (by decide +kernel) (fun _ _ _ h => h) (fun _ _ _ => trivial) (by rfl) (fun w' hSw => ?_) hS ?_; rotate_left 1; (focus (have z0 := hSw.cell cj; have z1 := hSw.cell cp; go_simp; try with_reducible rfl)); simp only [Act.put, List.setIfInBounds_toArray, List.set_cons_zero, List.set_cons_succ])
            | (refine wpAnyHIn_take 1 (v := ?_) rfl (by kernel_rfl) (by kernel_rfl) (by kernel_rfl) (by decide +kernel) (fun _ _ _ h => h) (fun _ _ _ => trivial) (by rfl) (fun w' hSw => ?_) hS ?_; rotate_left 1; (focus (have z0 := hSw.cell cj; have z1 := hSw.cell cp; go_simp; try with_reducible rfl)); simp only [Act.put, List.setIfInBounds_toArray, List.set_cons_zero, List.set_cons_succ])
            | (refine wpAnyHIn_take 2 (v := ?_) rfl (by kernel_rfl) (by kernel_rfl) (by kernel_rfl) (by decide +kernel) (fun _ _ _ h => h) (fun _ _ _ => trivial) (by rfl) (fun w' hSw => ?_) hS ?_; rotate_left 1; (focus (have z0 := hSw.cell cj; have z1 := hSw.cell cp; go_simp; try with_reducible rfl)); simp only [Act.put, List.setIfInBounds_toArray, List.set_cons_zero, List.set_cons_succ])
            | (refine wpAnyHIn_take 3 (v := ?_) rfl (by kernel_rfl) (by kernel_rfl) (by kernel_rfl) (by decide +kernel) (fun _ _ _ h => h) (fun _ _ _ => trivial) (by rfl) (fun w' hSw => ?_) hS ?_; rotate_left 1; (focus (have z0 := hSw.cell cj; have z1 := hSw.cell cp; go_simp; try with_reducible rfl)); simp only [Act.put, List.setIfInBounds_toArray, List.set_cons_zero, List.set_cons_succ])
            | (refine wpAnyHIn_take 4 (v := ?_) rfl (by kernel_rfl) (by kernel_rfl) (by kernel_rfl) (by decide +kernel) (fun _ _ _ h => h) (fun _ _ _ => trivial) (by rfl) (fun w' hSw => ?_) hS ?_; rotate_left 1; (focus (have z0 := hSw.cell cj; have z1 := hSw.cell cp; go_simp; try with_reducible rfl)); simp only [Act.put, List.setIfInBounds_toArray, List.set_cons_zero, List.set_cons_succ])
            | (refine wpAnyHIn_take 5 (v := ?_) rfl (by kernel_rfl) (by kernel_rfl) (by kernel_rfl) (by decide +kernel) (fun _ _ _ h => h) (fun _ _ _ => trivial) (by rfl) (fun w' hSw => ?_) hS ?_; rotate_left 1; (focus (have z0 := hSw.cell cj; have z1 := hSw.cell cp; go_simp; try with_reducible rfl)); simp only [Act.put, List.setIfInBounds_toArray, List.set_cons_zero, List.set_cons_succ])
            | (refine wpAnyHIn_take 6 (v := ?_) rfl (by kernel_rfl) (by kernel_rfl) (by kernel_rfl) (by decide +kernel) (fun _ _ _ h => h) (fun _ _ _ => trivial) (by rfl) (fun w' hSw => ?_) hS ?_; rotate_left 1; (focus (have z0 := hSw.cell cj; have z1 := hSw.cell cp; go_simp; try with_reducible rfl)); simp only [Act.put, List.setIfInBounds_toArray, List.set_cons_zero, List.set_cons_succ])
            | (refine wpAnyHIn_take 7 (v := ?_) rfl (by kernel_rfl) (by kernel_rfl) (by kernel_rfl) (by decide +kernel) (fun _ _ _ h => h) (fun _ _ _ => trivial) (by rfl) (fun w' hSw => ?_) hS ?_; rotate_left 1; (focus (have z0 := hSw.cell cj; have z1 := hSw.cell cp; go_simp; try with_reducible rfl)); simp only [Act.put, List.setIfInBounds_toArray, List.set_cons_zero, List.set_cons_succ])
            | (refine wpAnyHIn_take 8 (v := ?_) rfl (by kernel_rfl) (by kernel_rfl) (by kernel_rfl) (by decide +kernel) (fun _ _ _ h => h) (fun _ _ _ => trivial) (by rfl) (fun w' hSw => ?_) hS ?_; rotate_left 1; (focus (have z0 := hSw.cell cj; have z1 := hSw.cell cp; go_simp; try with_reducible rfl)); simp only [Act.put, List.setIfInBounds_toArray, List.set_cons_zero, List.set_cons_succ])
            | (refine wpAnyHIn_take 9 (v := ?_) rfl (by kernel_rfl) (by kernel_rfl) (by kernel_rfl) (by decide +kernel) (fun _ _ _ h => h) (fun _ _ _ => trivial) (by rfl) (fun w' hSw => ?_) hS ?_; rotate_left 1; (focus (have z0 := hSw.cell cj; have z1 := hSw.cell cp; go_simp; try with_reducible rfl)); simp only [Act.put, List.setIfInBounds_toArray, List.set_cons_zero, List.set_cons_succ])
            | (refine wpAnyHIn_take 10 (v := ?_) rfl (by kernel_rfl) (by kernel_rfl) (by kernel_rfl) (by decide +kernel) (fun _ _ _ h => h) (fun _ _ _ => trivial) (by rfl) (fun w' hSw => ?_) hS ?_; rotate_left 1; (focus (have z0 := hSw.cell cj; have z1 := hSw.cell cp; go_simp; try with_reducible rfl)); simp only [Act.put, List.setIfInBounds_toArray, List.set_cons_zero, List.set_cons_succ])
            | (refine wpAnyHIn_take 11 (v := ?_) rfl (by kernel_rfl) (by kernel_rfl) (by kernel_rfl) (by decide +kernel) (fun _ _ _ h => h) (fun _ _ _ => trivial) (by rfl) (fun w' hSw => ?_) hS ?_; rotate_left 1; (focus (have z0 := hSw.cell cj; have z1 := hSw.cell cp; go_simp; try with_reducible rfl)); simp only [Act.put, List.setIfInBounds_toArray, List.set_cons_zero, List.set_cons_succ])
            | (refine wpAnyHIn_take 12 (v := ?_) rfl (by kernel_rfl) (by kernel_rfl) (by kernel_rfl) (by decide +kernel) (fun _ _ _ h => h) (fun _ _ _ => trivial) (by rfl) (fun w' hSw => ?_) hS ?_; rotate_left 1; (focus (have z0 := hSw.cell cj; have z1 := hSw.cell cp; go_simp; try with_reducible rfl)); simp only [Act.put, List.setIfInBounds_toArray, List.set_cons_zero, List.set_cons_succ])
            | (refine wpAnyHIn_take 13 (v := ?_) rfl (by kernel_rfl) (by kernel_rfl) (by kernel_rfl) (by decide +kernel) (fun _ _ _ h => h) (fun _ _ _ => trivial) (by rfl) (fun w' hSw => ?_) hS ?_; rotate_left 1; (focus (have z0 := hSw.cell cj; have z1 := hSw.cell cp; go_simp; try with_reducible rfl)); simp only [Act.put, List.setIfInBounds_toArray, List.set_cons_zero, List.set_cons_succ]))
          refine wpAnyHIn_ready [14] (by kernel_rfl) (by simp) ?_
          refine AllHIn.cons rfl (by rfl) (fun K hK => ?_) AllHIn.nil
          go_simp
          refine ⟨trivial, ?_⟩
          refine (callsIn_wide.2 (HC.out _ hS)).mono ?_
          rintro e wX ⟨rfl, gX⟩
          have hS : Gr wr wX := hS.trans gX
          refine hK.out _ _ hS ?_
          clear hK K gX
          iterate 2 (first
            | (refine wpAnyHIn_take 15 (v := ?_) rfl (by kernel_rfl) (by kernel_rfl) (by kernel_rfl) (by decide +kernel) (fun _ _ _ h => h) (fun _ _ _ => trivial) (by rfl) (fun w' hSw => ?_) hS ?_; rotate_left 1; (focus (skip; go_simp; try with_reducible rfl)); simp only [Act.put, List.setIfInBounds_toArray, List.set_cons_zero, List.set_cons_succ])
            | (refine wpAnyHIn_take 16 (v := ?_) rfl (by kernel_rfl) (by kernel_rfl) (by kernel_rfl) (by decide +kernel) (fun _ _ _ h => h) (fun _ _ _ => trivial) (by rfl) (fun w' hSw => ?_) hS ?_; rotate_left 1; (focus (skip; go_simp; try with_reducible rfl)); simp only [Act.put, List.setIfInBounds_toArray, List.set_cons_zero, List.set_cons_succ]))
          refine wpAnyHIn_done (by kernel_rfl) ?_ _
          clear HC
          have HW3 := Lib.hid (HW2.out.trans (Wr.of_gr hS))
          have HR3 := Lib.hid (HR2.out.gr hS)
          clear hS cj cp HW2 HR2
          by_cases hl : cmpO f g (R2 J) (R2 jp) < 0
          · obtain ⟨cj, fj⟩ := HR3.out J (by have := hJ.out; omega)
            obtain ⟨cp, fp⟩ := HR3.out jp (by have := HJ.out; have := hJ.out; omega)
            have HE4 := Lib.hid (show insI lt jp (swp R2 J) = insI lt k R1 by rw [← HE2.out, HE3.out, HL.out, decide_eq_true hl]; rfl)
            have cp2 := cell_by (k := J) cp (by have := HJ.out; omega) (.int .i64 (R2 jp))
            have cj2 := cell_by (k := jp) cj (by have := HJ.out; omega) (.int .i64 (R2 J))
            clear HE2 HE3
            go_wp2_with fail
            go_region
            all_goals go_wp2
            go_roundw
            case rel => exact ⟨jp, swp R2 J, by go_num, Lib.hid (by have := HJ.out; have := hJ.out; omega), Lib.hid ((HW3.out.set J _).set jp _).drew, Lib.hid (HR3.out.swap HJ.out (by have := hJ.out; omega)), Lib.hid (swp_bd HB2.out (by have := hJ.out; omega)), HE4⟩
            case measure => have := HJ.out; simp [intOf]; omega
          · have HE4 := Lib.hid (show R2 = insI lt k R1 by rw [← HE2.out, HE3.out, HL.out, decide_eq_false hl]; rfl)
            clear HE2 HE3
            go_wp2_with fail
            go_roundw
            case rel => exact ⟨k + 1, R2, by go_num, Lib.hid ⟨by omega, .inl (by omega)⟩, HW3, HR3, HB2, Lib.hid (by rw [← HE1.out, show m - k = (m - (k + 1)) + 1 by omega]; show _ = insO lt (m - (k + 1)) (k + 1) (insI lt k R1); rw [← HE4.out])⟩
            case measure => simp [intOf]; omega
    · have hlki : ¬ (k : Int) < (m : Int) := by omega
      go_wp2_with fail
      go_end0
      refine ⟨rfl, HW1.out, ?_⟩
      rw [← HE1.out, show m - k = 0 by have := hk.out; omega]
      exact HR1.out

end Go.Proofs.YtohcnicadbpbbaaGreatDoor

namespace Go.Proofs.YtohcnicadbpbbaaGreatDoor

/-- Above 0, if the first comes first. -/
def crs (f g : Nat → Int) (a b : Nat) : Int := g a * f b - g b * f a
theorem crs_key (f g : Nat → Int) (a b c : Nat) : (f b + g b) * crs f g a c = (f c + g c) * crs f g a b + (f a + g a) * crs f g b c := by
  unfold crs
  simp only [Int.mul_sub, Int.add_mul]
  have e1 : f b * (g a * f c) = f c * (g a * f b) := by ac_rfl
  have e2 : f b * (g c * f a) = f a * (g c * f b) := by ac_rfl
  have e3 : g b * (g a * f c) = g a * (g b * f c) := by ac_rfl
  have e4 : g b * (g c * f a) = g c * (g b * f a) := by ac_rfl
  have e5 : f c * (g b * f a) = f a * (g b * f c) := by ac_rfl
  have e6 : g c * (g a * f b) = g a * (g c * f b) := by ac_rfl
  omega
theorem crs_pos {f g : Nat → Int} {a b c : Nat} (ha : 0 < f a + g a) (hb : 0 < f b + g b) (hc : 0 < f c + g c) (h1 : 0 ≤ crs f g a b) (h2 : 0 ≤ crs f g b c) : 0 ≤ crs f g a c ∧ (0 < crs f g a b ∨ 0 < crs f g b c → 0 < crs f g a c) := by
  have k := crs_key f g a b c
  have m1 := Int.mul_nonneg (Int.le_of_lt hc) h1
  have m2 := Int.mul_nonneg (Int.le_of_lt ha) h2
  refine ⟨?_, fun h => ?_⟩
  · rcases Int.lt_or_le (crs f g a c) 0 with h | h
    · have := Int.mul_neg_of_pos_of_neg hb h; omega
    · exact h
  · rcases Int.lt_or_le 0 (crs f g a c) with h3 | h3
    · exact h3
    · have m3 : (f b + g b) * crs f g a c ≤ 0 := Int.mul_nonpos_of_nonneg_of_nonpos (Int.le_of_lt hb) h3
      rcases h with h | h
      · have := Int.mul_pos hc h; omega
      · have := Int.mul_pos ha h; omega

end Go.Proofs.YtohcnicadbpbbaaGreatDoor

namespace Go.Proofs.YtohcnicadbpbbaaGreatDoor

theorem cmpO_lt {f g : Nat → Int} {a b : Nat} : cmpO f g a b < 0 ↔ nth f g a < nth f g b ∨ (nth f g a = nth f g b ∧ 0 < crs f g a b) := by
  unfold cmpO orI cmpI crs
  repeat' split
  all_goals omega
theorem cmpO_eq {f g : Nat → Int} {a b : Nat} : cmpO f g a b = 0 ↔ nth f g a = nth f g b ∧ crs f g a b = 0 := by
  unfold cmpO orI cmpI crs
  repeat' split
  all_goals omega
theorem nth_cases {f g : Nat → Int} {a : Nat} (hf : 0 ≤ f a) (hg : 0 ≤ g a) : (nth f g a = 1 ∧ f a = 0 ∧ g a = 0) ∨ (nth f g a = 0 ∧ 0 < f a + g a) := by
  unfold nth
  split <;> omega

/-- Whether an outcome comes before another one in the row. -/
def befO (f g : Nat → Int) (a b : Nat) : Bool := decide (cmpO f g a b < 0) || (decide (cmpO f g a b = 0) && decide (a < b))
theorem befO_iff {f g : Nat → Int} {a b : Nat} : befO f g a b = true ↔ nth f g a < nth f g b ∨ (nth f g a = nth f g b ∧ (0 < crs f g a b ∨ (crs f g a b = 0 ∧ a < b))) := by
  unfold befO
  rw [Bool.or_eq_true, Bool.and_eq_true, decide_eq_true_eq, decide_eq_true_eq, decide_eq_true_eq, cmpO_lt, cmpO_eq]
  omega
theorem crs_swap (f g : Nat → Int) (a b : Nat) : crs f g b a = -crs f g a b := by unfold crs; omega
theorem befO_irr (f g : Nat → Int) (a : Nat) : befO f g a a = false := by
  rw [Bool.eq_false_iff]
  intro h
  have := befO_iff.1 h
  have e := crs_swap f g a a
  omega
theorem befO_tot (f g : Nat → Int) (a b : Nat) (h : befO f g a b = false) (hne : a ≠ b) : befO f g b a = true := by
  rw [befO_iff]
  have h' : ¬ (befO f g a b = true) := by rw [h]; simp
  rw [befO_iff] at h'
  have e := crs_swap f g a b
  omega
theorem befO_tr {f g : Nat → Int} (hf : ∀ i, 0 ≤ f i) (hg : ∀ i, 0 ≤ g i) (a b c : Nat) (h1 : befO f g a b = true) (h2 : befO f g b c = true) : befO f g a c = true := by
  rw [befO_iff] at *
  rcases nth_cases (hf a) (hg a) with ⟨na, fa, ga⟩ | ⟨na, pa⟩ <;> rcases nth_cases (hf b) (hg b) with ⟨nb, fb, gb⟩ | ⟨nb, pb⟩ <;> rcases nth_cases (hf c) (hg c) with ⟨nc, fc, gc⟩ | ⟨nc, pc⟩
  all_goals try omega
  · have z : ∀ x y, f x = 0 → g x = 0 → f y = 0 → g y = 0 → crs f g x y = 0 := fun x y p q r s => by unfold crs; rw [p, q, r, s]; rfl
    have := z a b fa ga fb gb
    have := z b c fb gb fc gc
    have := z a c fa ga fc gc
    omega
  · have k := crs_pos pa pb pc (by omega) (by omega)
    omega

end Go.Proofs.YtohcnicadbpbbaaGreatDoor

namespace Go.Proofs.YtohcnicadbpbbaaGreatDoor

theorem sm_add (f g : Nat → Int) : ∀ n, sm (fun i => f i + g i) n = sm f n + sm g n
  | 0 => rfl
  | n + 1 => by
    show sm (fun i => f i + g i) n + (f n + g n) = (sm f n + f n) + (sm g n + g n)
    rw [sm_add f g n]; omega
theorem sm_mul (c : Int) (f : Nat → Int) : ∀ n, sm (fun i => c * f i) n = c * sm f n
  | 0 => by simp [sm]
  | n + 1 => by
    show sm (fun i => c * f i) n + c * f n = c * (sm f n + f n)
    rw [sm_mul c f n, Int.mul_add]
theorem sm_mulr (c : Int) (f : Nat → Int) (n : Nat) : sm (fun i => f i * c) n = sm f n * c := by
  rw [Int.mul_comm, ← sm_mul]; exact sm_congr fun i _ => Int.mul_comm _ _
theorem sm_mono {f g : Nat → Int} : ∀ {n : Nat}, (∀ i, i < n → f i ≤ g i) → sm f n ≤ sm g n
  | 0, _ => Int.le_refl _
  | n + 1, h => by
    have a := sm_mono (f := f) (g := g) (n := n) (fun i hi => h i (by omega))
    have b := h n (by omega)
    show sm f n + f n ≤ sm g n + g n
    omega
/-- One term is another one. -/
theorem sm_one {f g : Nat → Int} {c : Nat} : ∀ {n : Nat}, (∀ i, i < n → i ≠ c → g i = f i) → sm g n = sm f n + (if c < n then g c - f c else 0)
  | 0, _ => by simp [sm]
  | n + 1, h => by
    have a := sm_one (f := f) (g := g) (c := c) (n := n) (fun i hi => h i (by omega))
    show sm g n + g n = sm f n + f n + _
    rw [a]
    by_cases h1 : n = c
    · subst h1
      rw [if_neg (Nat.lt_irrefl _), if_pos (Nat.lt_succ_self _)]; omega
    · rw [h n (by omega) h1]
      by_cases h2 : c < n
      · rw [if_pos h2, if_pos (by omega)]; omega
      · rw [if_neg h2, if_neg (by omega)]; omega

theorem sm_swp (q : Nat → Int) (R : Nat → Nat) {j : Nat} : ∀ {n : Nat}, j + 1 < n → sm (fun p => q (swp R (j + 1) p)) n = sm (fun p => q (R p)) n
  | 0, h => by omega
  | n + 1, h => by
    show sm (fun p => q (swp R (j + 1) p)) n + q (swp R (j + 1) n) = sm (fun p => q (R p)) n + q (R n)
    rcases Nat.lt_or_ge (j + 1) n with h1 | h1
    · rw [sm_swp q R h1, swp_far R (by omega) (by omega)]
    · obtain rfl : n = j + 1 := by omega
      rw [swp_hi]
      show sm (fun p => q (swp R (j + 1) p)) j + q (swp R (j + 1) j) + _ = sm (fun p => q (R p)) j + q (R j) + _
      rw [swp_lo, sm_congr (f := fun p => q (swp R (j + 1) p)) (g := fun p => q (R p)) (k := j) (fun b hb => by rw [swp_far R (by omega) (by omega)])]
      omega
theorem insI_sm (q : Nat → Int) (lt : Nat → Nat → Bool) {n : Nat} : ∀ (j : Nat) (R : Nat → Nat), j < n → sm (fun p => q (insI lt j R p)) n = sm (fun p => q (R p)) n
  | 0, _, _ => rfl
  | j + 1, R, h => by
    rw [insI_succ]
    split
    · rw [insI_sm q lt j _ (by omega), sm_swp q R h]
    · rfl
theorem insO_sm (q : Nat → Int) (lt : Nat → Nat → Bool) {n : Nat} : ∀ (m i : Nat) (R : Nat → Nat), m + i = n → sm (fun p => q (insO lt m i R p)) n = sm (fun p => q (R p)) n
  | 0, _, _, _ => rfl
  | m + 1, i, R, h => by
    show sm (fun p => q (insO lt m (i + 1) (insI lt i R) p)) n = _
    rw [insO_sm q lt m (i + 1) _ (by omega), insI_sm q lt i R (by omega)]

/-- The row of n outcomes. -/
def rowN (f g : Nat → Int) (n : Nat) : Nat → Nat := insO (fun i j => decide (cmpO f g i j < 0)) (n - 1) 1 id
/-- A sum along the row. -/
theorem sm_row (f g q : Nat → Int) {n : Nat} (hn : 0 < n) : sm (fun p => q (rowN f g n p)) n = sm q n := insO_sm q _ (n - 1) 1 id (by omega)

/-- A set as bits. -/
def setN (R : Nat → Nat) : Nat → Nat
  | 0 => 0
  | k + 1 => setN R k ||| (1 <<< R k)
def inN (R : Nat → Nat) (k a : Nat) : Bool := (setN R k).testBit a
theorem inN_succ (R : Nat → Nat) (k a : Nat) : inN R (k + 1) a = (inN R k a || decide (a = R k)) := by
  unfold inN
  show (setN R k ||| (1 <<< R k)).testBit a = _
  rw [Nat.testBit_or, Nat.testBit_shiftLeft]
  congr 1
  by_cases h : a = R k
  · subst h; simp
  · by_cases h1 : R k ≤ a
    · have : a - R k ≠ 0 := by omega
      simp [h]
      intro _
      exact Bool.eq_false_iff.2 (fun e => this (Nat.testBit_one_eq_true_iff_self_eq_zero.1 e))
    · simp [h, h1]
theorem inN_not {n : Nat} {R : Nat → Nat} (hi : Inj n R) {c : Nat} (hc : c < n) : ∀ {k : Nat}, k ≤ c → inN R k (R c) = false
  | 0, _ => by simp [inN, setN]
  | k + 1, h => by
    rw [inN_succ, inN_not hi hc (by omega)]
    simp
    intro e
    have := hi c k hc (by omega) e
    omega
/-- What the first k of a row hold. -/
theorem sm_set {n : Nat} {R : Nat → Nat} (hi : Inj n R) (hb : ∀ p, p < n → R p < n) (f : Nat → Int) : ∀ {k : Nat}, k ≤ n → sm (fun a => if inN R k a then f a else 0) n = sm (fun p => f (R p)) k
  | 0, _ => by
    have : sm (fun a => if inN R 0 a then f a else 0) n = sm (fun _ => 0 * 0) n := sm_congr fun i _ => by simp [inN, setN]
    rw [this, sm_mul 0 (fun _ => 0) n]; simp [sm]
  | k + 1, h => by
    have a := sm_set hi hb f (k := k) (by omega)
    have b := sm_one (f := fun a => if inN R k a then f a else 0) (g := fun a => if inN R (k + 1) a then f a else 0) (c := R k) (n := n) (fun i _ hne => by
      show (if inN R (k + 1) i = true then f i else 0) = if inN R k i = true then f i else 0
      rw [inN_succ]; simp [hne])
    rw [b, a, if_pos (hb k (by omega))]
    show _ + ((if inN R (k + 1) (R k) = true then f (R k) else 0) - (if inN R k (R k) = true then f (R k) else 0)) = sm (fun p => f (R p)) k + f (R k)
    rw [inN_succ, inN_not hi (by omega : k < n) (Nat.le_refl k)]
    simp

end Go.Proofs.YtohcnicadbpbbaaGreatDoor

namespace Go.Proofs.YtohcnicadbpbbaaGreatDoor

theorem ord_row {f g : Nat → Int} (hf : ∀ i, 0 ≤ f i) (hg : ∀ i, 0 ≤ g i) {n : Nat} (hn : 0 < n) : Ord (befO f g) n n (rowN f g n) :=
  Ord.all (befO_tr hf hg) (befO_tot f g) (fun a b h => by
    unfold befO
    have : decide (a < b) = false := by simp; omega
    rw [this]; simp) (n - 1) 1 id (by omega) (Ord.start _ n)
theorem crs_self (f g : Nat → Int) (a : Nat) : crs f g a a = 0 := by have := crs_swap f g a a; omega

/-- What a pair of outcomes counts, in halves. -/
def parN (f g : Nat → Int) (a b : Nat) : Int := if 0 < crs f g a b then 2 * (g a * f b) else if crs f g a b = 0 then g a * f b else 0
theorem par_two (f g : Nat → Int) (a b : Nat) : parN f g a b + parN f g b a = 2 * max (g a * f b) (g b * f a) := by
  have e := crs_swap f g a b
  have d : crs f g a b = g a * f b - g b * f a := rfl
  unfold parN
  generalize g a * f b = x at *
  generalize g b * f a = y at *
  rw [e]
  repeat' split
  all_goals omega
theorem par_bef {f g : Nat → Int} (hf : ∀ i, 0 ≤ f i) (hg : ∀ i, 0 ≤ g i) {a b : Nat} (h : befO f g a b = true) : parN f g a b + parN f g b a = 2 * (g a * f b) := by
  have d : crs f g a b = g a * f b - g b * f a := rfl
  have c : 0 ≤ crs f g a b := by
    rcases befO_iff.1 h with h1 | h1
    · rcases nth_cases (hf b) (hg b) with ⟨nb, fb, gb⟩ | ⟨nb, pb⟩
      · unfold crs; rw [fb, gb]; simp
      · rcases nth_cases (hf a) (hg a) with ⟨na, fa, ga⟩ | ⟨na, pa⟩ <;> omega
    · omega
  rw [par_two]
  generalize g a * f b = x at *
  generalize g b * f a = y at *
  omega
theorem par_self (f g : Nat → Int) (a : Nat) : parN f g a a = g a * f a := by
  unfold parN; rw [crs_self]; simp

/-- The count of pairs, in halves. -/
def prs (f g : Nat → Int) (n : Nat) : Int := sm (fun a => sm (fun b => parN f g a b) n) n
/-- The area along a row, in halves. -/
def areN (f g : Nat → Int) (R : Nat → Nat) (n : Nat) : Int := sm (fun p => f (R p) * (2 * sm (fun q => g (R q)) p + g (R p))) n

theorem tri {f g : Nat → Int} {R : Nat → Nat} {n : Nat} (hp : ∀ p q, p < q → q < n → parN f g (R p) (R q) + parN f g (R q) (R p) = 2 * (g (R p) * f (R q))) :
    ∀ {m : Nat}, m ≤ n → sm (fun p => sm (fun q => parN f g (R p) (R q)) m) m = areN f g R m
  | 0, _ => rfl
  | m + 1, hm => by
    have a := tri hp (m := m) (by omega)
    show sm (fun p => sm (fun q => parN f g (R p) (R q)) m + parN f g (R p) (R m)) m + (sm (fun q => parN f g (R m) (R q)) m + parN f g (R m) (R m)) = areN f g R m + f (R m) * (2 * sm (fun q => g (R q)) m + g (R m))
    rw [sm_add, a, par_self]
    have b : sm (fun p => parN f g (R p) (R m)) m + sm (fun q => parN f g (R m) (R q)) m = 2 * (sm (fun q => g (R q)) m * f (R m)) := by
      rw [← sm_add, sm_congr (fun i hi => hp i m hi (by omega)), sm_mul, sm_mulr]
    rw [Int.mul_add]
    have c : f (R m) * (2 * sm (fun q => g (R q)) m) = 2 * (sm (fun q => g (R q)) m * f (R m)) := by ac_rfl
    have d : f (R m) * g (R m) = g (R m) * f (R m) := Int.mul_comm _ _
    omega
/-- THE AREA IS THE COUNT OF PAIRS. -/
theorem area_pairs {f g : Nat → Int} (hf : ∀ i, 0 ≤ f i) (hg : ∀ i, 0 ≤ g i) {n : Nat} (hn : 0 < n) : areN f g (rowN f g n) n = prs f g n := by
  have O := ord_row hf hg hn
  rw [← tri (fun p q hpq hq => par_bef hf hg (O.lt (befO_tr hf hg) p q hpq hq)) (Nat.le_refl n)]
  unfold prs
  rw [← sm_row f g (fun a => sm (fun b => parN f g a b) n) hn]
  exact sm_congr fun p _ => sm_row f g (fun b => parN f g (rowN f g n p) b) hn

theorem sm_swap (h : Nat → Nat → Int) (n : Nat) : ∀ m, sm (fun a => sm (fun b => h a b) n) m = sm (fun b => sm (fun a => h a b) m) n
  | 0 => by
    show 0 = sm (fun _ => 0) n
    have := sm_mul 0 (fun _ => 0) n
    simp at this
    exact this.symm
  | m + 1 => by
    show sm (fun a => sm (fun b => h a b) n) m + sm (fun b => h m b) n = sm (fun b => sm (fun a => h a b) m + h m b) n
    rw [sm_swap h n m, sm_add]
/-- The count of pairs as a sum of greatest products. -/
def mxS (f g : Nat → Int) (n : Nat) : Int := sm (fun a => sm (fun b => max (g a * f b) (g b * f a)) n) n
theorem prs_mx (f g : Nat → Int) (n : Nat) : prs f g n = mxS f g n := by
  have a : 2 * mxS f g n = prs f g n + prs f g n := by
    have e : prs f g n = sm (fun a => sm (fun b => parN f g b a) n) n := sm_swap (fun a b => parN f g a b) n n
    unfold mxS
    rw [← sm_mul]
    have e2 : prs f g n + prs f g n = prs f g n + sm (fun a => sm (fun b => parN f g b a) n) n := by rw [← e]
    rw [e2]
    unfold prs
    rw [← sm_add]
    refine sm_congr fun a _ => ?_
    show 2 * sm (fun b => max (g a * f b) (g b * f a)) n = sm (fun b => parN f g a b) n + sm (fun b => parN f g b a) n
    rw [← sm_add, ← sm_mul]
    exact sm_congr fun b _ => (par_two f g a b).symm
  omega
theorem sm_prod (f g : Nat → Int) (n m : Nat) : sm (fun a => sm (fun b => g a * f b) m) n = sm g n * sm f m := by
  rw [← sm_mulr]
  exact sm_congr fun a _ => sm_mul (g a) f m
theorem mx_le {f g : Nat → Int} {n : Nat} (hf : ∀ i, i < n → 0 ≤ f i) (hg : ∀ i, i < n → 0 ≤ g i) : mxS f g n ≤ 2 * (sm g n * sm f n) := by
  have a : mxS f g n ≤ sm (fun a => sm (fun b => g a * f b + g b * f a) n) n := sm_mono fun a ha => sm_mono fun b hb => by
    have x := Int.mul_nonneg (hg a ha) (hf b hb)
    have y := Int.mul_nonneg (hg b hb) (hf a ha)
    omega
  have b : sm (fun a => sm (fun b => g a * f b + g b * f a) n) n = sm g n * sm f n + sm g n * sm f n := by
    rw [sm_congr (fun a _ => sm_add (fun b => g a * f b) (fun b => g b * f a) n), sm_add, sm_prod, sm_swap (fun a b => g b * f a) n n, sm_prod]
  omega
theorem le_mx (f g : Nat → Int) (n : Nat) : sm g n * sm f n ≤ mxS f g n := by
  rw [← sm_prod]
  exact sm_mono fun a _ => sm_mono fun b _ => by omega
theorem mx_swap (f g : Nat → Int) (n : Nat) : mxS g f n = mxS f g n := by
  refine sm_congr fun a _ => sm_congr fun b _ => ?_
  show max (f a * g b) (f b * g a) = max (g a * f b) (g b * f a)
  rw [Int.mul_comm (f a), Int.mul_comm (f b), Int.max_comm]

end Go.Proofs.YtohcnicadbpbbaaGreatDoor

namespace Go.Proofs.YtohcnicadbpbbaaGreatDoor

/-- Whether the reference puts b before a. -/
def refB (f g : Nat → Int) (a b : Nat) : Bool :=
  if nth f g a ≠ nth f g b then decide (nth f g a = 1) else if 0 < crs f g b a then true else !decide (0 < crs f g a b) && decide (b < a)
theorem refB_bef {f g : Nat → Int} (hf : ∀ i, 0 ≤ f i) (hg : ∀ i, 0 ≤ g i) (a b : Nat) : refB f g a b = befO f g b a := by
  have h : refB f g a b = true ↔ befO f g b a = true := by
    rw [befO_iff]
    have e := crs_swap f g a b
    unfold refB
    rcases nth_cases (hf a) (hg a) with ⟨na, _⟩ | ⟨na, _⟩ <;> rcases nth_cases (hf b) (hg b) with ⟨nb, _⟩ | ⟨nb, _⟩
    all_goals
      rw [na, nb]
      simp
      try omega
    all_goals
      by_cases h1 : 0 < crs f g b a <;> by_cases h2 : 0 < crs f g a b <;> simp [h1, h2] <;> omega
  cases h1 : refB f g a b <;> cases h2 : befO f g b a <;> simp_all
/-- The place of an outcome. -/
def plc (f g : Nat → Int) (n a : Nat) : Nat := cntP (fun b => refB f g a b) n
theorem cntP_le (q : Nat → Bool) : ∀ n, cntP q n ≤ n
  | 0 => Nat.le_refl 0
  | n + 1 => by
    have := cntP_le q n
    show cntP q n + _ ≤ n + 1
    split <;> omega
theorem plc_row {f g : Nat → Int} (hf : ∀ i, 0 ≤ f i) (hg : ∀ i, 0 ≤ g i) {n p : Nat} (hp : p < n) : plc f g n (rowN f g n p) = p := by
  unfold plc
  rw [cntP_congr (fun b _ => refB_bef hf hg (rowN f g n p) b)]
  exact place (befO_tr hf hg) (befO_tot f g) (befO_irr f g) (fun a b h => by
    unfold befO
    have : decide (a < b) = false := by simp; omega
    rw [this]; simp) hp
theorem cntP_eq (a : Nat) : ∀ n, cntP (fun p => decide (p = a)) n = if a < n then 1 else 0
  | 0 => rfl
  | n + 1 => by
    show cntP (fun p => decide (p = a)) n + _ = _
    rw [cntP_eq a n]
    by_cases h : n = a
    · subst h; simp
    · have e : decide (n = a) = false := by simp [h]
      simp only [e]
      by_cases h2 : a < n
      · rw [if_pos h2, if_neg (by decide), if_pos (show a < n + 1 by omega)]
      · rw [if_neg h2, if_neg (by decide), if_neg (show ¬ a < n + 1 by omega)]
theorem cntP_ex {q : Nat → Bool} : ∀ {n : Nat}, 0 < cntP q n → ∃ p, p < n ∧ q p = true
  | 0, h => by cases h
  | n + 1, h => by
    cases hq : q n with
    | true => exact ⟨n, by omega, hq⟩
    | false =>
      have : 0 < cntP q n := by
        have h' : 0 < cntP q n + (if q n = true then 1 else 0) := h
        rw [hq] at h'; simpa using h'
      obtain ⟨p, h1, h2⟩ := cntP_ex this
      exact ⟨p, by omega, h2⟩
theorem row_sur (f g : Nat → Int) {n a : Nat} (ha : a < n) : ∃ p, p < n ∧ rowN f g n p = a := by
  have e := insO_cnt (fun x => decide (x = a)) (fun i j => decide (cmpO f g i j < 0)) (n := n) (n - 1) 1 id (by omega)
  have e2 : cntP (fun p => decide (id p = a)) n = 1 := by
    have := cntP_eq a n
    rw [if_pos ha] at this
    exact this
  obtain ⟨p, h1, h2⟩ := cntP_ex (q := fun p => decide (insO (fun i j => decide (cmpO f g i j < 0)) (n - 1) 1 id p = a)) (n := n) (by rw [e, e2]; omega)
  exact ⟨p, h1, of_decide_eq_true h2⟩
theorem plc_lt {f g : Nat → Int} (hf : ∀ i, 0 ≤ f i) (hg : ∀ i, 0 ≤ g i) {n a : Nat} (ha : a < n) : plc f g n a < n := by
  obtain ⟨p, hp, rfl⟩ := row_sur f g ha
  rw [plc_row hf hg hp]; exact hp
/-- The reference's row when the first k are put in. -/
def U (f g : Nat → Int) (n : Nat) : Nat → Nat → Int
  | 0, _ => 0
  | k + 1, q => if q = plc f g n k then k else U f g n k q
theorem U_at {f g : Nat → Int} (hf : ∀ i, 0 ≤ f i) (hg : ∀ i, 0 ≤ g i) {n p : Nat} (hp : p < n) : ∀ {k : Nat}, k ≤ n → U f g n k p = if rowN f g n p < k then (rowN f g n p : Int) else 0
  | 0, _ => rfl
  | k + 1, hk => by
    show (if p = plc f g n k then (k : Int) else U f g n k p) = _
    rw [U_at hf hg hp (k := k) (by omega)]
    by_cases h : p = plc f g n k
    · obtain ⟨p', h1, h2⟩ := row_sur f g (a := k) (n := n) (by omega)
      have : p = p' := by rw [h, ← h2, plc_row hf hg h1]
      subst this
      rw [if_pos h, h2, if_pos (by omega)]
    · rw [if_neg h]
      have : rowN f g n p ≠ k := fun e => h (by rw [← e, plc_row hf hg hp])
      by_cases h2 : rowN f g n p < k
      · rw [if_pos h2, if_pos (by omega)]
      · rw [if_neg h2, if_neg (by omega)]
theorem U_row {f g : Nat → Int} (hf : ∀ i, 0 ≤ f i) (hg : ∀ i, 0 ≤ g i) {n p : Nat} (hp : p < n) : U f g n n p = (rowN f g n p : Int) := by
  rw [U_at hf hg hp (Nat.le_refl n), if_pos ((ord_row hf hg (by omega)).bd p hp)]

/-- How far noise and signal are apart: the sum of what is above 0. -/
def apP (f g : Nat → Int) (n : Nat) : Int := sm (fun a => max 0 (g a * sm f n - f a * sm g n)) n
def apA (f g : Nat → Int) (n : Nat) : Int := sm (fun a => max (g a * sm f n - f a * sm g n) (-(g a * sm f n - f a * sm g n))) n
theorem ap_two (f g : Nat → Int) (n : Nat) : apA f g n = 2 * apP f g n := by
  have z : sm (fun a => g a * sm f n - f a * sm g n) n = 0 := by
    have e : sm (fun a => g a * sm f n - f a * sm g n) n = sm (fun a => g a * sm f n + f a * (-sm g n)) n := sm_congr fun i _ => by rw [Int.mul_neg]; omega
    rw [e, sm_add, sm_mulr, sm_mulr, Int.mul_neg, Int.mul_comm (sm g n)]
    omega
  have k : ∀ m, apA f g n = apA f g n → sm (fun a => max (g a * sm f n - f a * sm g n) (-(g a * sm f n - f a * sm g n))) m = 2 * sm (fun a => max 0 (g a * sm f n - f a * sm g n)) m - sm (fun a => g a * sm f n - f a * sm g n) m := by
    intro m _
    induction m with
    | zero => rfl
    | succ m ih =>
      simp only [sm, ih]
      omega
  have := k n rfl
  unfold apA apP
  omega

end Go.Proofs.YtohcnicadbpbbaaGreatDoor
