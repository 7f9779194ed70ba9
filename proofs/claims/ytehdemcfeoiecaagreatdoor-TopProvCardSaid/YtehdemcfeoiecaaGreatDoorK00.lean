import Derived.WalkKit
import Derived.WalkSpells
import Derived.WalkLawsBesides
import Derived.Lib.Hide
import Derived.OrdersHeld
import Derived.OrdersIn
import Derived.OwnWalkIn
import Derived.Laws.Entries
import Derived.KernelRfl
import Derived.ProofKit
import Derived.Deep.SlicePairs
import Derived.Lib.SmallJoins
import Derived.Laws.IdiomStrings
import Derived.Sort.Walk0
import Derived.Lib.Slices
import Derived.Shelf.Strings.SlTrimAscii
import Derived.Shelf.Slices.Turned
import Derived.Shelf.SlicesE.IndexFunc
import Derived.Ground.NamesProg
import Derived.Ground.SlgfProg
import Derived.Shelf.SlGeneric
import Derived.Test.YtehdemcfeoiecaaGreatDoorProg
import Derived.Test.YtehdemcfeoiecaaGreatDoorRows
import Derived.Deep.QuietTactic
import Derived.BigQuiet
import Derived.BigRegion
import Derived.Deep.DeepCutAuto
import Derived.Deep.RegionHeld3
set_option maxHeartbeats 64000000
set_option maxRecDepth 100000
namespace Go.Firn
open Go.RowKit
def Gr (w w' : World) : Prop := Below w.heap.size w w'
theorem Gr.refl (w : World) : Gr w w := Below.refl _ _
theorem Gr.size {w w' : World} (h : Gr w w') : w.heap.size ≤ w'.heap.size := Below.size h
theorem Gr.trans {a b c : World} (h : Gr a b) (k : Gr b c) : Gr a c := Below.trans h (Below.mono k h.size)
theorem Gr.drew {a w : World} (h : Gr a w) : Gr a w.drew := Below.drew h
theorem Gr.alloc {a w : World} (h : Gr a w) (o : Obj) : Gr a (w.alloc o) := Below.alloc h h.size o
theorem Gr.setCell {a w : World} (h : Gr a w) {p : Addr} (hp : a.heap.size ≤ p.block) (u : Value) : Gr a (w.setCell p u) := Below.setCell h hp u
theorem Gr.grown {a w w' : World} {row : Option Nat} (h : Gr a w) (hg : w.grownBy w' row) (hr : ∀ k, row = some k → a.heap.size ≤ k) : Gr a w' := Below.grown h hg h.size hr
theorem Gr.cell {w w' : World} (h : Gr w w') {p : Addr} {v : Value} (hp : w.cell? p = some v) : w'.cell? p = some v := by
 rw [Below.cell h (World.block_lt_of_cell? w p hp)]; exact hp
theorem Gr.drewN {a w : World} (h : Gr a w) (n : Nat) : Gr a (w.drewN n) := ⟨h.os, h.tape, h.output, h.size, h.block⟩
def RdI (w : World) (a : Option Addr) (n : Nat) (f : Nat → Int) : Prop :=
 n = 0 ∨ ∃ b o, a = some ⟨b, o, none⟩ ∧ ∀ i, i < n → w.cell? ⟨b, o + i, none⟩ = some (.int .i64 (f i))
theorem RdI.gr {w w' : World} {a : Option Addr} {n : Nat} {f : Nat → Int} (h : RdI w a n f) (g : Gr w w') : RdI w' a n f := by
 rcases h with h | ⟨b, o, ha, hc⟩
 ·exact .inl h
 exact .inr ⟨b, o, ha, fun i hi => g.cell (hc i hi)⟩
theorem RdI.congr {w : World} {a : Option Addr} {n : Nat} {f g : Nat → Int} (h : RdI w a n f) (e : ∀ i, i < n → f i = g i) : RdI w a n g := by
 rcases h with h | ⟨b, o, ha, hc⟩
 ·exact .inl h
 exact .inr ⟨b, o, ha, fun i hi => by rw [hc i hi, e i hi]⟩
theorem RdI.nil (w : World) (a : Option Addr) (f : Nat → Int) : RdI w a 0 f := .inl rfl
theorem RdI.at {w : World} {a : Option Addr} {n : Nat} {f : Nat → Int} (h : RdI w a n f) {k : Nat} (hk : k < n) : ∃ b o, a = some ⟨b, o, none⟩ ∧ ∀ i, i < n → w.cell? ⟨b, o + i, none⟩ = some (.int .i64 (f i)) := by
 rcases h with h | h
 ·omega
 exact h
def RetB (b : Bool) (w : World) (e : Ending) (w' : World) : Prop := e = .returned (.bool b) ∧ Gr w w'
theorem info_int {P : Program} {e : TypeId} (h : (P.info? e).map (fun i => (i.zero, i.size, i.bytes)) = some (some (.int .i64 0), 1, 8)) :
  ∃ i, P.info? e = some i ∧ i.zero = some (.int .i64 0) ∧ i.size = 1 ∧ i.bytes = 8 := by
 cases hi : P.info? e with
 | none => rw [hi] at h; cases h
 | some i => rw [hi] at h; simp at h; exact ⟨i, rfl, h.1, h.2.1, h.2.2⟩
theorem cell_new1 (w : World) (v : Value) (e : TypeId) : (w.alloc (.cells #[v] e)).cell? ⟨w.heap.size, 0, none⟩ = some v := by simp [World.cell?_alloc_new]
theorem add_flat {x : Addr} (h : x.spot = none) (i : Nat) : x.add i = ⟨x.block, x.off + i, none⟩ := by
 obtain ⟨b, o, s⟩ := x
 simp only at h
 subst h
 unfold Addr.add
 split
 ·subst_vars; simp
 rfl
end Go.Firn
namespace Go.Firn
open Go
section
variable {F : Fence} {n : Nat} {P : Program} {ops : Array Oper} {Q : Exit → Act → World → Prop} {md : Region.Mode} {S : World → Prop}
def noDeferB (ops : Array Oper) : Bool := ops.all fun o => match o.op with | .defer _ => false | _ => true
theorem noDefer_spec (h : noDeferB ops = true) {j : Nat} {o : Oper} (ho : ops[j]? = some o) (c : _) : o.op ≠ .defer c := fun e => by
 have := Array.all_eq_true'.1 h o (Array.mem_of_getElem? ho)
 rw [e] at this
 cases this
def YieldsHIn (F : Fence) (P : Program) (ops : Array Oper) (S : World → Prop) (o : Oper) (v : Value) (a : Act) : Prop :=
 YieldsIf P ops S o v a ∧ ∀ w f, o.about P w a.eval = some f → F.fn f
theorem YieldsHIn.wpOpIn {i : Nat} {o : Oper} {v : Value} {a : Act} (hnd : ∀ c, o.op ≠ .defer c) (hi : ops[i]? = some o) (hy : YieldsHIn F P ops S o v a)
  {K : Act → World → Prop} {w : World} (hS : S w) (h : K (a.put o.dst v) w) : wpOpIn F n P ops Q i K a w := by
 unfold Go.wpOpIn
 simp only [hi]
 rcases hy.1 with ⟨hw, hv⟩ | ⟨hw, rfl⟩
 ·simp only [hw, if_true, Oper.wpIn, Oper.semAt_plain F _ _ hnd, hv w hS, Oper.uponIn]; exact ⟨hy.2 w, h⟩
 simp only [hw, Bool.false_eq_true, if_false]; exact ⟨hy.2 w, h⟩
theorem YieldsHIn.of_same {o : Oper} {v : Value} {a a' : Act} (hy : YieldsHIn F P ops S o v a) (he : execOp a'.eval o = execOp a.eval o)
  (hw : Region.wanted o (yielded ops a'.tmps) = Region.wanted o (yielded ops a.tmps)) (hb : ∀ w, o.about P w a'.eval = o.about P w a.eval) : YieldsHIn F P ops S o v a' :=
 ⟨hy.1.of_same he hw, fun w f hf => hy.2 w f (by rw [← hb w]; exact hf)⟩
theorem wpOpIn_putH {j : Nat} {oi oj : Oper} {v : Value} (hnd : ∀ c, oj.op ≠ .defer c) (hj : ops[j]? = some oj) (hap : oi.apart ops oj = true)
  (hsi : ∀ cs b, oi.op ≠ .select cs b) (hsj : ∀ cs b, oj.op ≠ .select cs b)
  (hQ : ∀ c a w, Q (.panic c) (a.put oi.dst v) w → Q (.panic c) a w) {K : Act → World → Prop} {a : Act} {w : World}
  (hy : YieldsHIn F P ops S oi v a) (h : wpOpIn F n P ops Q j K (a.put oi.dst v) w) :
  wpOpIn F n P ops Q j (fun a' w' => YieldsHIn F P ops S oi v a' ∧ K (a'.put oi.dst v) w') a w := by
 obtain ⟨h1, h2, h3⟩ := Oper.apart_spec hap
 have keep : ∀ (a : Act), YieldsHIn F P ops S oi v a → ∀ u, YieldsHIn F P ops S oi v (a.put oj.dst u) := fun a hy u =>
  hy.of_same (execOp_put oi hsi a oj.dst u h3) (wanted_put oi a oj.dst u h3) (fun w => about_put oi w a oj.dst u h3)
 have keepD : ∀ d, YieldsHIn F P ops S oi v { a with defers := d :: a.defers } := fun d => hy.of_same rfl rfl (fun _ => rfl)
 unfold wpOpIn at *
 simp only [hj] at *
 rw [wanted_put oj a oi.dst v h1, about_put oj w a oi.dst v h1] at h
 split
 ·rename_i hw
  simp only [hw, if_true] at h
  unfold Oper.wpIn at *
  rw [about_put oj w a oi.dst v h1] at h
  refine ⟨h.1, ?_⟩
  have h := h.2
  rw [Oper.semAt_plain F _ _ hnd, execOp_put oj hsj a oi.dst v h1] at h
  rw [Oper.semAt_plain F _ _ hnd]
  generalize (execOp a.eval oj).run P w = r at *
  cases r with
  | ok x w' =>
   cases x <;> simp only [Oper.uponIn] at h ⊢
   case value u => exact ⟨keep a hy u, by rw [← Act.put_comm a v u h2]; exact h⟩
   case skip => exact ⟨keep a hy _, by rw [← Act.put_comm a v undef h2]; exact h⟩
   case defer d =>
    refine ⟨keep _ (keepD d) _, ?_⟩
    rw [← Act.put_comm _ v undef h2, ← Act.put_defers]
    exact h
   case enter f args =>
    refine ⟨h.1, CallsIn.mono h.2 fun e w'' he => ?_⟩
    cases e with
    | returned u => exact ⟨keep a hy u, by rw [← Act.put_comm a v u h2]; exact he⟩
    | panicked c => exact hQ _ _ _ he
    | outgrown => exact he
   case row row args => exact ⟨h.1, RowsIn.mono h.2 fun u w'' he => ⟨keep a hy u, by rw [← Act.put_comm a v u h2]; exact he⟩⟩
   case round l f tmps assign body =>
    refine ⟨h.1, RoundIn.mono h.2 fun e w'' he => ?_⟩
    cases e with
    | returned u => exact ⟨keep a hy u, by rw [← Act.put_comm a v u h2]; exact he⟩
    | panicked c => exact hQ _ _ _ he
    | outgrown => exact he
  | halt x w' =>
   cases x <;> simp only [Oper.uponIn] at h ⊢
   case panic u => exact hQ _ _ _ h
 rename_i hw
 simp only [hw] at h
 exact ⟨h.1, keep a hy _, by rw [← Act.put_comm a v undef h2]; exact h.2⟩
def wpAnyHIn (F : Fence) (n : Nat) (P : Program) (md : Region.Mode) (ops : Array Oper) (Q : Exit → Act → World → Prop) (S : World → Prop) : Nat → Array Bool → Act → World → Prop
 | 0, listed, a, w => Region.ready md ops listed = [] ∧ Q .normal a w
 | fuel + 1, listed, a, w =>
  (Region.ready md ops listed = [] → Q .normal a w) ∧
  ∀ i ∈ Region.ready md ops listed, wpOpIn F n P ops Q i (fun a' w' => S w' ∧ wpAnyHIn F n P md ops Q S fuel (listed.setIfInBounds i true) a' w') a w
theorem wpAnyIn_of_held : ∀ (fuel : Nat) (listed : Array Bool) (a : Act) (w : World), wpAnyHIn F n P md ops Q S fuel listed a w → wpAnyIn F n P md ops Q fuel listed a w
 | 0, _, _, _, h => h
 | fuel + 1, _, _, _, h => ⟨h.1, fun i hi => wpOpIn_mono (fun a' w' h' => wpAnyIn_of_held fuel _ a' w' h'.2) (h.2 i hi)⟩
theorem wpAnyHIn_first {i : Nat} {oi : Oper} {v : Value} (hnd : noDeferB ops = true) (hi : ops[i]? = some oi) (hsel : ∀ (j : Nat) (o : Oper) cs b, ops[j]? = some o → o.op ≠ .select cs b)
  (hQ : ∀ c a w, Q (.panic c) (a.put oi.dst v) w → Q (.panic c) a w) :
  ∀ (fuel : Nat) (listed : Array Bool) (a : Act) (w : World),
   (∀ j oj, ops[j]? = some oj → j ≠ i → listed.getD j true = false → (∀ e ∈ oj.after, Region.binds md e = true → e.on ≠ i) → oi.apart ops oj = true) →
   i ∈ Region.ready md ops listed → YieldsHIn F P ops S oi v a → S w →
   wpAnyHIn F n P md ops Q S fuel (listed.setIfInBounds i true) (a.put oi.dst v) w → wpAnyHIn F n P md ops Q S (fuel + 1) listed a w := by
 intro fuel
 induction fuel with
 | zero =>
  intro listed a w _ hr hy hS H
  refine ⟨fun h => (by rw [h] at hr; cases hr), fun j hj => ?_⟩
  by_cases hji : j = i
  ·subst hji; exact hy.wpOpIn (noDefer_spec hnd hi) hi hS ⟨hS, H⟩
  have := ready_mono hj hji
  rw [H.1] at this
  cases this
 | succ fuel ih =>
  intro listed a w hfree hr hy hS H
  refine ⟨fun h => (by rw [h] at hr; cases hr), fun j hj => ?_⟩
  by_cases hji : j = i
  ·subst hji; exact hy.wpOpIn (noDefer_spec hnd hi) hi hS ⟨hS, H⟩
  have h1 := H.2 j (ready_mono hj hji)
  obtain ⟨hjun, oj, hoj, hall⟩ := mem_ready.1 hj
  have hnot : ∀ e ∈ oj.after, Region.binds md e = true → e.on ≠ i := fun e he hb heq => by
   have h1 := hall e he hb
   have h0 := (mem_ready.1 hr).1
   rw [heq] at h1
   rcases Nat.lt_or_ge i listed.size with h' | h'
   ·simp [h'] at h0 h1; rw [h0] at h1; cases h1
   simp [Array.getElem?_eq_none h'] at h1
  have h2 := wpOpIn_putH (noDefer_spec hnd hoj) hoj (hfree j oj hoj hji hjun hnot) (fun cs b => hsel i oi cs b hi) (fun cs b => hsel j oj cs b hoj) hQ hy h1
  have hfree' : ∀ k ok, ops[k]? = some ok → k ≠ i → (listed.setIfInBounds j true).getD k true = false →
    (∀ e ∈ ok.after, Region.binds md e = true → e.on ≠ i) → oi.apart ops ok = true := fun k ok hk hki hun hno => by
   refine hfree k ok hk hki ?_ hno
   by_cases hjk : j = k
   ·subst hjk; exact hjun
   rw [getD_set_ne true hjk] at hun; exact hun
  refine wpOpIn_mono (fun a' w' h3 => ⟨h3.2.1, ih (listed.setIfInBounds j true) a' w' hfree' (ready_mono hr (Ne.symm hji)) h3.1 h3.2.1 ?_⟩) h2
  rw [Array.setIfInBounds_comm _ _ hji]
  exact h3.2.2
theorem wpAnyHIn_take (i : Nat) {l : List Oper} {oi : Oper} {v : Value} {fuel : Nat} {listed : Array Bool} {a : Act} {w : World} (hi : l[i]? = some oi) (hnd : noDeferB l.toArray = true)
  (hs : Region.noSelect l.toArray = true) (hf : Region.free md l.toArray listed i = true) (hr : (Region.ready md l.toArray listed).contains i = true)
  (hQ : ∀ c a w, Q (.panic c) (a.put oi.dst v) w → Q (.panic c) a w) (hb : ∀ w f, oi.about P w a.eval = some f → F.fn f) (hw : Region.wanted oi (yielded l.toArray a.tmps) = true) (hy : ∀ w, S w → (execOp a.eval oi).run P w = .ok (.value v) w) (hS : S w)
  (h : wpAnyHIn F n P md l.toArray Q S fuel (listed.setIfInBounds i true) (a.put oi.dst v) w) : wpAnyHIn F n P md l.toArray Q S (fuel + 1) listed a w :=
 have hi' : l.toArray[i]? = some oi := by simpa using hi
 wpAnyHIn_first hnd hi' (Region.noSelect_spec hs) hQ fuel listed a w (Region.free_spec hi' hf) (by simpa using hr) ⟨.inl ⟨hw, hy⟩, hb⟩ hS h
theorem wpAnyHIn_skip (i : Nat) {l : List Oper} {oi : Oper} {fuel : Nat} {listed : Array Bool} {a : Act} {w : World} (hi : l[i]? = some oi) (hnd : noDeferB l.toArray = true)
  (hs : Region.noSelect l.toArray = true) (hf : Region.free md l.toArray listed i = true) (hr : (Region.ready md l.toArray listed).contains i = true)
  (hQ : ∀ c a w, Q (.panic c) (a.put oi.dst undef) w → Q (.panic c) a w) (hb : ∀ w f, oi.about P w a.eval = some f → F.fn f) (hw : Region.wanted oi (yielded l.toArray a.tmps) = false) (hS : S w)
  (h : wpAnyHIn F n P md l.toArray Q S fuel (listed.setIfInBounds i true) (a.put oi.dst undef) w) : wpAnyHIn F n P md l.toArray Q S (fuel + 1) listed a w :=
 have hi' : l.toArray[i]? = some oi := by simpa using hi
 wpAnyHIn_first hnd hi' (Region.noSelect_spec hs) hQ fuel listed a w (Region.free_spec hi' hf) (by simpa using hr) ⟨.inr ⟨hw, rfl⟩, hb⟩ hS h
def AllHIn (F : Fence) (n : Nat) (P : Program) (md : Region.Mode) (ops : Array Oper) (Q : Exit → Act → World → Prop) (S : World → Prop) (fuel : Nat) (listed : Array Bool) (a : Act) (w : World) (rs : List Nat) : Prop :=
 ∀ i ∈ rs, wpOpIn F n P ops Q i (fun a' w' => S w' ∧ wpAnyHIn F n P md ops Q S fuel (listed.setIfInBounds i true) a' w') a w
theorem AllHIn.nil {fuel : Nat} {listed : Array Bool} {a : Act} {w : World} : AllHIn F n P md ops Q S fuel listed a w [] := fun _ h => by cases h
def Lid (p : Prop) : Prop := p
theorem Lid.out {p : Prop} (h : Lid p) : p := h
theorem AllHIn.cons {fuel : Nat} {listed : Array Bool} {a : Act} {w : World} {i : Nat} {l : List Oper} {o : Oper} {rs : List Nat} (ho : l[i]? = some o) (hw : Region.wanted o (yielded l.toArray a.tmps) = true)
  (h : ∀ K' : Act → World → Prop, Lid (∀ a w, S w → wpAnyHIn F n P md l.toArray Q S fuel (listed.setIfInBounds i true) a w → K' a w) → Oper.wpIn F n P o a w K' Q)
  (hs : AllHIn F n P md l.toArray Q S fuel listed a w rs) : AllHIn F n P md l.toArray Q S fuel listed a w (i :: rs) := fun j hj => by
 rcases List.mem_cons.1 hj with rfl | hj
 ·refine wpOpIn_step (show l.toArray[_]? = some o by simpa using ho) fun K' hK => ?_
  rw [if_pos hw]
  exact h K' (fun a w hS hW => hK a w ⟨hS, hW⟩)
 exact hs j hj
theorem wpAnyHIn_ready (rs : List Nat) {fuel : Nat} {listed : Array Bool} {a : Act} {w : World} (hr : Region.ready md ops listed = rs) (hne : rs ≠ [])
  (h : AllHIn F n P md ops Q S fuel listed a w rs) : wpAnyHIn F n P md ops Q S (fuel + 1) listed a w := ⟨fun h0 => absurd (hr ▸ h0) hne, hr ▸ h⟩
theorem wpAnyHIn_done {listed : Array Bool} {a : Act} {w : World} (hr : Region.ready md ops listed = []) (h : Q .normal a w) :
  ∀ fuel, wpAnyHIn F n P md ops Q S fuel listed a w
 | 0 => ⟨hr, h⟩
 | _ + 1 => ⟨fun _ => h, by rw [hr]; simp⟩
theorem wpIn_region_held (S : World → Prop) (k : Nat) {listed : List Bool} {id : Nat} {a : Act} {w : World} (hm : P.follows .mixedOrders = true) (hk : ops.size = k) (hl : List.replicate k false = listed)
  (h : wpAnyHIn F n P .any ops Q S k listed.toArray a w.drew) : (Code.region id ops true).wpIn F n P Q a w :=
 wpIn_region_any hm (wpAnyIn_of_held _ _ _ _ (by subst hk; subst hl; rw [List.toArray_replicate] at h; exact h))
end
section
variable {F : Fence} {n : Nat} {P : Program} {ops : Array Oper} {Q : Exit → Act → World → Prop} {md : Region.Mode} {S : World → Prop}
def wpAnyMIn (F : Fence) (n : Nat) (P : Program) (md : Region.Mode) (ops : Array Oper) (Q : Exit → Act → World → Prop) (S : World → Prop) (m : Nat) : Nat → Array Bool → Act → World → Prop
 | 0, listed, a, w => Region.ready md ops listed = [] ∧ Q .normal a w
 | fuel + 1, listed, a, w =>
  (Region.ready md ops listed = [] → Q .normal a w) ∧
  ∀ i ∈ Region.ready md ops listed, wpOpIn F n P ops Q i (fun a' w' => ((listed.setIfInBounds i true).getD m true = false → S w') ∧ wpAnyMIn F n P md ops Q S m fuel (listed.setIfInBounds i true) a' w') a w
theorem wpAnyIn_of_mark {m : Nat} : ∀ (fuel : Nat) (listed : Array Bool) (a : Act) (w : World), wpAnyMIn F n P md ops Q S m fuel listed a w → wpAnyIn F n P md ops Q fuel listed a w
 | 0, _, _, _, h => h
 | fuel + 1, _, _, _, h => ⟨h.1, fun i hi => wpOpIn_mono (fun a' w' h' => wpAnyIn_of_mark fuel _ a' w' h'.2) (h.2 i hi)⟩
def deps (md : Region.Mode) (ops : Array Oper) (i : Nat) : List Nat := (List.range ops.size).foldl (fun D j => match ops[j]? with | some o => if o.after.any (fun e => Region.binds md e && (e.on == i || D.contains e.on)) then j :: D else D | none => D) []
def comesB (md : Region.Mode) (ops : Array Oper) (listed : Array Bool) (m i : Nat) (D : List Nat) : Bool :=
 D.contains m && D.all fun j => !listed.getD j true && j != i && match ops[j]? with | some o => o.after.any (fun e => Region.binds md e && (e.on == i || D.contains e.on)) | none => false
theorem comes_spec {i m : Nat} {listed : Array Bool} {D : List Nat} (h : comesB md ops listed m i D = true) : m ∈ D ∧ (∀ j ∈ D, listed.getD j true = false ∧ j ≠ i) ∧ ∀ j ∈ D, ∃ o, ops[j]? = some o ∧ ∃ e ∈ o.after, Region.binds md e = true ∧ (e.on = i ∨ e.on ∈ D) := by
 unfold comesB at h
 rw [Bool.and_eq_true, List.all_eq_true] at h
 refine ⟨by simpa using h.1, fun j hj => ?_, fun j hj => ?_⟩
 ·have := h.2 j hj
  rw [Bool.and_eq_true, Bool.and_eq_true, Bool.not_eq_true', bne_iff_ne] at this
  exact this.1
 have := h.2 j hj
 rw [Bool.and_eq_true, Bool.and_eq_true] at this
 have := this.2
 cases ho : ops[j]? with
 | none =>
  rw [ho] at this; cases this
 | some o =>
  rw [ho] at this
  obtain ⟨e, he, hb⟩ := Array.any_eq_true'.1 this
  rw [Bool.and_eq_true, Bool.or_eq_true, beq_iff_eq] at hb
  exact ⟨o, rfl, e, he, hb.1, by simpa using hb.2⟩
theorem not_dep {i : Nat} {listed : Array Bool} {D : List Nat} (hd : ∀ j ∈ D, ∃ o, ops[j]? = some o ∧ ∃ e ∈ o.after, Region.binds md e = true ∧ (e.on = i ∨ e.on ∈ D)) (hi : listed.getD i true = false) (hD : ∀ j ∈ D, listed.getD j true = false) : ∀ j ∈ Region.ready md ops listed, j ∉ D := fun j hj hjD => by
 obtain ⟨_, oj, hoj, hall⟩ := mem_ready.1 hj
 obtain ⟨o, ho, e, he, hb, hon⟩ := hd j hjD
 rw [hoj] at ho
 cases ho
 have h1 := hall e he hb
 have h0 : listed.getD e.on true = false := by rcases hon with h | h; rw [h]; exact hi; exact hD _ h
 rcases Nat.lt_or_ge e.on listed.size with h' | h'
 ·simp [h'] at h0 h1; rw [h0] at h1; cases h1
 simp [Array.getElem?_eq_none h'] at h1
theorem wpAnyMIn_first {i m : Nat} {oi : Oper} {v : Value} (hnd : noDeferB ops = true) (hi : ops[i]? = some oi) (hsel : ∀ (j : Nat) (o : Oper) cs b, ops[j]? = some o → o.op ≠ .select cs b)
  (hQ : ∀ c a w, Q (.panic c) (a.put oi.dst v) w → Q (.panic c) a w) {D : List Nat} (hmD : m ∈ D) (hiD : ∀ j ∈ D, j ≠ i) (hd : ∀ j ∈ D, ∃ o, ops[j]? = some o ∧ ∃ e ∈ o.after, Region.binds md e = true ∧ (e.on = i ∨ e.on ∈ D)) :
  ∀ (fuel : Nat) (listed : Array Bool) (a : Act) (w : World),
   (∀ j oj, ops[j]? = some oj → j ≠ i → listed.getD j true = false → (∀ e ∈ oj.after, Region.binds md e = true → e.on ≠ i) → oi.apart ops oj = true) →
   i ∈ Region.ready md ops listed → (∀ j ∈ D, listed.getD j true = false) → YieldsHIn F P ops S oi v a → S w →
   wpAnyMIn F n P md ops Q S m fuel (listed.setIfInBounds i true) (a.put oi.dst v) w → wpAnyMIn F n P md ops Q S m (fuel + 1) listed a w := by
 intro fuel
 induction fuel with
 | zero =>
  intro listed a w _ hr _ hy hS H
  refine ⟨fun h => (by rw [h] at hr; cases hr), fun j hj => ?_⟩
  by_cases hji : j = i
  ·subst hji; exact hy.wpOpIn (noDefer_spec hnd hi) hi hS ⟨fun _ => hS, H⟩
  have := ready_mono hj hji
  rw [H.1] at this
  cases this
 | succ fuel ih =>
  intro listed a w hfree hr hlm hy hS H
  refine ⟨fun h => (by rw [h] at hr; cases hr), fun j hj => ?_⟩
  by_cases hji : j = i
  ·subst hji; exact hy.wpOpIn (noDefer_spec hnd hi) hi hS ⟨fun _ => hS, H⟩
  have h1 := H.2 j (ready_mono hj hji)
  have hjD : j ∉ D := not_dep hd (mem_ready.1 hr).1 hlm j hj
  obtain ⟨hjun, oj, hoj, hall⟩ := mem_ready.1 hj
  have hnot : ∀ e ∈ oj.after, Region.binds md e = true → e.on ≠ i := fun e he hb heq => by
   have h1 := hall e he hb
   have h0 := (mem_ready.1 hr).1
   rw [heq] at h1
   rcases Nat.lt_or_ge i listed.size with h' | h'
   ·simp [h'] at h0 h1; rw [h0] at h1; cases h1
   simp [Array.getElem?_eq_none h'] at h1
  have h2 := wpOpIn_putH (noDefer_spec hnd hoj) hoj (hfree j oj hoj hji hjun hnot) (fun cs b => hsel i oi cs b hi) (fun cs b => hsel j oj cs b hoj) hQ hy h1
  have hfree' : ∀ k ok, ops[k]? = some ok → k ≠ i → (listed.setIfInBounds j true).getD k true = false →
    (∀ e ∈ ok.after, Region.binds md e = true → e.on ≠ i) → oi.apart ops ok = true := fun k ok hk hki hun hno => by
   refine hfree k ok hk hki ?_ hno
   by_cases hjk : j = k
   ·subst hjk; exact hjun
   rw [getD_set_ne true hjk] at hun; exact hun
  have hlm' : ∀ d ∈ D, (listed.setIfInBounds j true).getD d true = false := fun d hdD => by rw [getD_set_ne true (fun (e : j = d) => hjD (by rw [e]; exact hdD))]; exact hlm d hdD
  have hlm2 : ((listed.setIfInBounds i true).setIfInBounds j true).getD m true = false := by rw [getD_set_ne true (fun (e : j = m) => hjD (by rw [e]; exact hmD)), getD_set_ne true (fun e => hiD m hmD e.symm)]; exact hlm m hmD
  refine wpOpIn_mono (fun a' w' h3 => ⟨fun _ => h3.2.1 hlm2, ih (listed.setIfInBounds j true) a' w' hfree' (ready_mono hr (Ne.symm hji)) hlm' h3.1 (h3.2.1 hlm2) ?_⟩) h2
  rw [Array.setIfInBounds_comm _ _ hji]
  exact h3.2.2
theorem wpAnyMIn_take (i : Nat) {m : Nat} {l : List Oper} {oi : Oper} {v : Value} {fuel : Nat} {listed : Array Bool} {a : Act} {w : World} (hi : l[i]? = some oi) (hnd : noDeferB l.toArray = true)
  (hs : Region.noSelect l.toArray = true) (hf : Region.free md l.toArray listed i = true) (hr : (Region.ready md l.toArray listed).contains i = true) (hc : comesB md l.toArray listed m i (deps md l.toArray i) = true)
  (hQ : ∀ c a w, Q (.panic c) (a.put oi.dst v) w → Q (.panic c) a w) (hb : ∀ w f, oi.about P w a.eval = some f → F.fn f) (hw : Region.wanted oi (yielded l.toArray a.tmps) = true) (hy : ∀ w, S w → (execOp a.eval oi).run P w = .ok (.value v) w) (hS : S w)
  (h : wpAnyMIn F n P md l.toArray Q S m fuel (listed.setIfInBounds i true) (a.put oi.dst v) w) : wpAnyMIn F n P md l.toArray Q S m (fuel + 1) listed a w :=
 have hi' : l.toArray[i]? = some oi := by simpa using hi
 wpAnyMIn_first hnd hi' (Region.noSelect_spec hs) hQ (comes_spec hc).1 (fun j hj => ((comes_spec hc).2.1 j hj).2) (comes_spec hc).2.2 fuel listed a w (Region.free_spec hi' hf) (by simpa using hr) (fun j hj => ((comes_spec hc).2.1 j hj).1) ⟨.inl ⟨hw, hy⟩, hb⟩ hS h
theorem wpAnyMIn_skip (i : Nat) {m : Nat} {l : List Oper} {oi : Oper} {fuel : Nat} {listed : Array Bool} {a : Act} {w : World} (hi : l[i]? = some oi) (hnd : noDeferB l.toArray = true)
  (hs : Region.noSelect l.toArray = true) (hf : Region.free md l.toArray listed i = true) (hr : (Region.ready md l.toArray listed).contains i = true) (hc : comesB md l.toArray listed m i (deps md l.toArray i) = true)
  (hQ : ∀ c a w, Q (.panic c) (a.put oi.dst undef) w → Q (.panic c) a w) (hb : ∀ w f, oi.about P w a.eval = some f → F.fn f) (hw : Region.wanted oi (yielded l.toArray a.tmps) = false) (hS : S w)
  (h : wpAnyMIn F n P md l.toArray Q S m fuel (listed.setIfInBounds i true) (a.put oi.dst undef) w) : wpAnyMIn F n P md l.toArray Q S m (fuel + 1) listed a w :=
 have hi' : l.toArray[i]? = some oi := by simpa using hi
 wpAnyMIn_first hnd hi' (Region.noSelect_spec hs) hQ (comes_spec hc).1 (fun j hj => ((comes_spec hc).2.1 j hj).2) (comes_spec hc).2.2 fuel listed a w (Region.free_spec hi' hf) (by simpa using hr) (fun j hj => ((comes_spec hc).2.1 j hj).1) ⟨.inr ⟨hw, rfl⟩, hb⟩ hS h
def AllMIn (F : Fence) (n : Nat) (P : Program) (md : Region.Mode) (ops : Array Oper) (Q : Exit → Act → World → Prop) (S : World → Prop) (m : Nat) (fuel : Nat) (listed : Array Bool) (a : Act) (w : World) (rs : List Nat) : Prop :=
 ∀ i ∈ rs, wpOpIn F n P ops Q i (fun a' w' => ((listed.setIfInBounds i true).getD m true = false → S w') ∧ wpAnyMIn F n P md ops Q S m fuel (listed.setIfInBounds i true) a' w') a w
theorem AllMIn.nil {m fuel : Nat} {listed : Array Bool} {a : Act} {w : World} : AllMIn F n P md ops Q S m fuel listed a w [] := fun _ h => by cases h
theorem AllMIn.cons {m fuel : Nat} {listed : Array Bool} {a : Act} {w : World} {i : Nat} {l : List Oper} {o : Oper} {rs : List Nat} (ho : l[i]? = some o) (hw : Region.wanted o (yielded l.toArray a.tmps) = true)
  (h : ∀ K' : Act → World → Prop, Lid (∀ a w, ((listed.setIfInBounds i true).getD m true = false → S w) → wpAnyMIn F n P md l.toArray Q S m fuel (listed.setIfInBounds i true) a w → K' a w) → Oper.wpIn F n P o a w K' Q)
  (hs : AllMIn F n P md l.toArray Q S m fuel listed a w rs) : AllMIn F n P md l.toArray Q S m fuel listed a w (i :: rs) := fun j hj => by
 rcases List.mem_cons.1 hj with rfl | hj
 ·refine wpOpIn_step (show l.toArray[_]? = some o by simpa using ho) fun K' hK => ?_
  rw [if_pos hw]
  exact h K' (fun a w hS hW => hK a w ⟨hS, hW⟩)
 exact hs j hj
theorem wpAnyMIn_ready (rs : List Nat) {m fuel : Nat} {listed : Array Bool} {a : Act} {w : World} (hr : Region.ready md ops listed = rs) (hne : rs ≠ [])
  (h : AllMIn F n P md ops Q S m fuel listed a w rs) : wpAnyMIn F n P md ops Q S m (fuel + 1) listed a w := ⟨fun h0 => absurd (hr ▸ h0) hne, hr ▸ h⟩
theorem wpAnyMIn_done {m : Nat} {listed : Array Bool} {a : Act} {w : World} (hr : Region.ready md ops listed = []) (h : Q .normal a w) :
  ∀ fuel, wpAnyMIn F n P md ops Q S m fuel listed a w
 | 0 => ⟨hr, h⟩
 | _ + 1 => ⟨fun _ => h, by rw [hr]; simp⟩
theorem wpIn_region_mark (S : World → Prop) (m k : Nat) {listed : List Bool} {id : Nat} {a : Act} {w : World} (hm : P.follows .mixedOrders = true) (hk : ops.size = k) (hl : List.replicate k false = listed)
  (h : wpAnyMIn F n P .any ops Q S m k listed.toArray a w.drew) : (Code.region id ops true).wpIn F n P Q a w :=
 wpIn_region_any hm (wpAnyIn_of_mark _ _ _ _ (by subst hk; subst hl; rw [List.toArray_replicate] at h; exact h))
end
theorem Lh {p : Prop} (h : p) : RowKit.Hid p := h
section
variable {F : Fence} {n : Nat} {P : Program} {Q : Exit → Act → World → Prop} {md : Region.Mode} {S C : World → Prop} {l : List Oper} {oi : Oper} {v : Value} {m fuel : Nat} {listed listed' : Array Bool} {a a' : Act} {w : World}
theorem Hc {i : Nat} {rs : List Nat} (h : ∀ K' : Act → World → Prop, Lid (∀ a w, S w → wpAnyHIn F n P md l.toArray Q S fuel (listed.setIfInBounds i true) a w → K' a w) → Oper.wpIn F n P oi a w K' Q) (hs : AllHIn F n P md l.toArray Q S fuel listed a w rs) (ho : l[i]? = some oi := by rfl) (hw : Region.wanted oi (yielded l.toArray a.tmps) = true := by rfl) : AllHIn F n P md l.toArray Q S fuel listed a w (i :: rs) := AllHIn.cons ho hw h hs
theorem Hq (rs : List Nat) {ops : Array Oper} (h : AllHIn F n P md ops Q S fuel listed a w rs) (hr : Region.ready md ops listed = rs := by kernel_rfl) (hne : rs ≠ [] := by simp) : wpAnyHIn F n P md ops Q S (fuel + 1) listed a w := wpAnyHIn_ready rs hr hne h
theorem tv : ∀ w, S w → True := fun _ _ => trivial
structure St (F : Fence) (n : Nat) (P : Program) (md : Region.Mode) (Q : Exit → Act → World → Prop) (S C : World → Prop) (l : List Oper) (i : Nat) (listed : Array Bool) (a : Act) (listed' : Array Bool) (a' : Act) : Prop where
 run : ∀ fuel w, (∀ w, S w → C w) → S w → wpAnyHIn F n P md l.toArray Q S fuel listed' a' w → wpAnyHIn F n P md l.toArray Q S (fuel + 1) listed a w
theorem St.of {i : Nat} (hi : l[i]? = some oi) (hnd : noDeferB l.toArray = true := by kernel_rfl) (hs : Region.noSelect l.toArray = true := by kernel_rfl) (hf : Region.free md l.toArray listed i = true := by kernel_rfl) (hr : (Region.ready md l.toArray listed).contains i = true := by decide +kernel)
  (hQ : ∀ c a w, Q (.panic c) (a.put oi.dst v) w → Q (.panic c) a w := by exact fun _ _ _ h => h) (hb : ∀ w f, oi.about P w a.eval = some f → F.fn f := by exact fun _ _ _ => trivial) (hw : Region.wanted oi (yielded l.toArray a.tmps) = true := by rfl)
  (hy : ∀ w, S w → C w → (execOp a.eval oi).run P w = .ok (.value v) w := by (intro w' h0 h1; go_simp; try with_reducible rfl))
  (hl : listed.setIfInBounds i true = listed' := by (simp only [List.setIfInBounds_toArray, List.set_cons_zero, List.set_cons_succ]; exact rfl)) (ha : a.put oi.dst v = a' := by (simp only [Act.put, List.setIfInBounds_toArray, List.set_cons_zero, List.set_cons_succ]; exact rfl)) : St F n P md Q S C l i listed a listed' a' :=
 ⟨fun fuel w HF hS h => wpAnyHIn_take i hi hnd hs hf hr hQ hb hw (fun w h => hy w h (HF w h)) hS (by rw [hl, ha]; exact h)⟩
theorem St.skip {i : Nat} (hi : l[i]? = some oi) (hnd : noDeferB l.toArray = true := by kernel_rfl) (hs : Region.noSelect l.toArray = true := by kernel_rfl) (hf : Region.free md l.toArray listed i = true := by kernel_rfl) (hr : (Region.ready md l.toArray listed).contains i = true := by decide +kernel)
  (hQ : ∀ c a w, Q (.panic c) (a.put oi.dst undef) w → Q (.panic c) a w := by exact fun _ _ _ h => h) (hb : ∀ w f, oi.about P w a.eval = some f → F.fn f := by exact fun _ _ _ => trivial) (hw : Region.wanted oi (yielded l.toArray a.tmps) = false := by rfl)
  (hl : listed.setIfInBounds i true = listed' := by (simp only [List.setIfInBounds_toArray, List.set_cons_zero, List.set_cons_succ]; exact rfl)) (ha : a.put oi.dst undef = a' := by (simp only [Act.put, List.setIfInBounds_toArray, List.set_cons_zero, List.set_cons_succ]; exact rfl)) : St F n P md Q S C l i listed a listed' a' :=
 ⟨fun fuel w _ hS h => wpAnyHIn_skip i hi hnd hs hf hr hQ hb hw hS (by rw [hl, ha]; exact h)⟩
theorem H1 (i0 : Nat) {L1 : Array Bool} {a1 : Act} (HF : ∀ w, S w → C w) (hS : S w) (h : wpAnyHIn F n P md l.toArray Q S fuel L1 a1 w)
  (s0 : St F n P md Q S C l i0 listed a L1 a1 := by exact St.of rfl) :
  wpAnyHIn F n P md l.toArray Q S (fuel + 1) listed a w :=
 s0.run _ w HF hS (h)
theorem H2 (i0 i1 : Nat) {L1 L2 : Array Bool} {a1 a2 : Act} (HF : ∀ w, S w → C w) (hS : S w) (h : wpAnyHIn F n P md l.toArray Q S fuel L2 a2 w)
  (s0 : St F n P md Q S C l i0 listed a L1 a1 := by exact St.of rfl) (s1 : St F n P md Q S C l i1 L1 a1 L2 a2 := by exact St.of rfl) :
  wpAnyHIn F n P md l.toArray Q S (fuel + 2) listed a w :=
 s0.run _ w HF hS (s1.run _ w HF hS (h))
theorem H3 (i0 i1 i2 : Nat) {L1 L2 L3 : Array Bool} {a1 a2 a3 : Act} (HF : ∀ w, S w → C w) (hS : S w) (h : wpAnyHIn F n P md l.toArray Q S fuel L3 a3 w)
  (s0 : St F n P md Q S C l i0 listed a L1 a1 := by exact St.of rfl) (s1 : St F n P md Q S C l i1 L1 a1 L2 a2 := by exact St.of rfl) (s2 : St F n P md Q S C l i2 L2 a2 L3 a3 := by exact St.of rfl) :
  wpAnyHIn F n P md l.toArray Q S (fuel + 3) listed a w :=
 s0.run _ w HF hS (s1.run _ w HF hS (s2.run _ w HF hS (h)))
theorem H4 (i0 i1 i2 i3 : Nat) {L1 L2 L3 L4 : Array Bool} {a1 a2 a3 a4 : Act} (HF : ∀ w, S w → C w) (hS : S w) (h : wpAnyHIn F n P md l.toArray Q S fuel L4 a4 w)
  (s0 : St F n P md Q S C l i0 listed a L1 a1 := by exact St.of rfl) (s1 : St F n P md Q S C l i1 L1 a1 L2 a2 := by exact St.of rfl) (s2 : St F n P md Q S C l i2 L2 a2 L3 a3 := by exact St.of rfl) (s3 : St F n P md Q S C l i3 L3 a3 L4 a4 := by exact St.of rfl) :
  wpAnyHIn F n P md l.toArray Q S (fuel + 4) listed a w :=
 s0.run _ w HF hS (s1.run _ w HF hS (s2.run _ w HF hS (s3.run _ w HF hS (h))))
theorem H5 (i0 i1 i2 i3 i4 : Nat) {L1 L2 L3 L4 L5 : Array Bool} {a1 a2 a3 a4 a5 : Act} (HF : ∀ w, S w → C w) (hS : S w) (h : wpAnyHIn F n P md l.toArray Q S fuel L5 a5 w)
  (s0 : St F n P md Q S C l i0 listed a L1 a1 := by exact St.of rfl) (s1 : St F n P md Q S C l i1 L1 a1 L2 a2 := by exact St.of rfl) (s2 : St F n P md Q S C l i2 L2 a2 L3 a3 := by exact St.of rfl) (s3 : St F n P md Q S C l i3 L3 a3 L4 a4 := by exact St.of rfl) (s4 : St F n P md Q S C l i4 L4 a4 L5 a5 := by exact St.of rfl) :
  wpAnyHIn F n P md l.toArray Q S (fuel + 5) listed a w :=
 s0.run _ w HF hS (s1.run _ w HF hS (s2.run _ w HF hS (s3.run _ w HF hS (s4.run _ w HF hS (h)))))
theorem H12 (i0 i1 i2 i3 i4 i5 i6 i7 i8 i9 i10 i11 : Nat) {L1 L2 L3 L4 L5 L6 L7 L8 L9 L10 L11 L12 : Array Bool} {a1 a2 a3 a4 a5 a6 a7 a8 a9 a10 a11 a12 : Act} (HF : ∀ w, S w → C w) (hS : S w) (h : wpAnyHIn F n P md l.toArray Q S fuel L12 a12 w)
  (s0 : St F n P md Q S C l i0 listed a L1 a1 := by exact St.of rfl) (s1 : St F n P md Q S C l i1 L1 a1 L2 a2 := by exact St.of rfl) (s2 : St F n P md Q S C l i2 L2 a2 L3 a3 := by exact St.of rfl) (s3 : St F n P md Q S C l i3 L3 a3 L4 a4 := by exact St.of rfl) (s4 : St F n P md Q S C l i4 L4 a4 L5 a5 := by exact St.of rfl) (s5 : St F n P md Q S C l i5 L5 a5 L6 a6 := by exact St.of rfl) (s6 : St F n P md Q S C l i6 L6 a6 L7 a7 := by exact St.of rfl) (s7 : St F n P md Q S C l i7 L7 a7 L8 a8 := by exact St.of rfl) (s8 : St F n P md Q S C l i8 L8 a8 L9 a9 := by exact St.of rfl) (s9 : St F n P md Q S C l i9 L9 a9 L10 a10 := by exact St.of rfl) (s10 : St F n P md Q S C l i10 L10 a10 L11 a11 := by exact St.of rfl) (s11 : St F n P md Q S C l i11 L11 a11 L12 a12 := by exact St.of rfl) :
  wpAnyHIn F n P md l.toArray Q S (fuel + 12) listed a w :=
 s0.run _ w HF hS (s1.run _ w HF hS (s2.run _ w HF hS (s3.run _ w HF hS (s4.run _ w HF hS (s5.run _ w HF hS (s6.run _ w HF hS (s7.run _ w HF hS (s8.run _ w HF hS (s9.run _ w HF hS (s10.run _ w HF hS (s11.run _ w HF hS (h))))))))))))
theorem Hs1 (i0 : Nat) {L1 : Array Bool} {a1 : Act} (hS : S w) (h : wpAnyHIn F n P md l.toArray Q S fuel L1 a1 w)
  (s0 : St F n P md Q S (fun _ => True) l i0 listed a L1 a1 := by exact St.skip rfl) :
  wpAnyHIn F n P md l.toArray Q S (fuel + 1) listed a w :=
 s0.run _ w tv hS (h)
theorem Hs2 (i0 i1 : Nat) {L1 L2 : Array Bool} {a1 a2 : Act} (hS : S w) (h : wpAnyHIn F n P md l.toArray Q S fuel L2 a2 w)
  (s0 : St F n P md Q S (fun _ => True) l i0 listed a L1 a1 := by exact St.skip rfl) (s1 : St F n P md Q S (fun _ => True) l i1 L1 a1 L2 a2 := by exact St.skip rfl) :
  wpAnyHIn F n P md l.toArray Q S (fuel + 2) listed a w :=
 s0.run _ w tv hS (s1.run _ w tv hS (h))
theorem Hs4 (i0 i1 i2 i3 : Nat) {L1 L2 L3 L4 : Array Bool} {a1 a2 a3 a4 : Act} (hS : S w) (h : wpAnyHIn F n P md l.toArray Q S fuel L4 a4 w)
  (s0 : St F n P md Q S (fun _ => True) l i0 listed a L1 a1 := by exact St.skip rfl) (s1 : St F n P md Q S (fun _ => True) l i1 L1 a1 L2 a2 := by exact St.skip rfl) (s2 : St F n P md Q S (fun _ => True) l i2 L2 a2 L3 a3 := by exact St.skip rfl) (s3 : St F n P md Q S (fun _ => True) l i3 L3 a3 L4 a4 := by exact St.skip rfl) :
  wpAnyHIn F n P md l.toArray Q S (fuel + 4) listed a w :=
 s0.run _ w tv hS (s1.run _ w tv hS (s2.run _ w tv hS (s3.run _ w tv hS (h))))
theorem Hs8 (i0 i1 i2 i3 i4 i5 i6 i7 : Nat) {L1 L2 L3 L4 L5 L6 L7 L8 : Array Bool} {a1 a2 a3 a4 a5 a6 a7 a8 : Act} (hS : S w) (h : wpAnyHIn F n P md l.toArray Q S fuel L8 a8 w)
  (s0 : St F n P md Q S (fun _ => True) l i0 listed a L1 a1 := by exact St.skip rfl) (s1 : St F n P md Q S (fun _ => True) l i1 L1 a1 L2 a2 := by exact St.skip rfl) (s2 : St F n P md Q S (fun _ => True) l i2 L2 a2 L3 a3 := by exact St.skip rfl) (s3 : St F n P md Q S (fun _ => True) l i3 L3 a3 L4 a4 := by exact St.skip rfl) (s4 : St F n P md Q S (fun _ => True) l i4 L4 a4 L5 a5 := by exact St.skip rfl) (s5 : St F n P md Q S (fun _ => True) l i5 L5 a5 L6 a6 := by exact St.skip rfl) (s6 : St F n P md Q S (fun _ => True) l i6 L6 a6 L7 a7 := by exact St.skip rfl) (s7 : St F n P md Q S (fun _ => True) l i7 L7 a7 L8 a8 := by exact St.skip rfl) :
  wpAnyHIn F n P md l.toArray Q S (fuel + 8) listed a w :=
 s0.run _ w tv hS (s1.run _ w tv hS (s2.run _ w tv hS (s3.run _ w tv hS (s4.run _ w tv hS (s5.run _ w tv hS (s6.run _ w tv hS (s7.run _ w tv hS (h))))))))
theorem Mk (i : Nat) (hi : l[i]? = some oi) (HF : ∀ w, S w → C w) (hS : S w) (h : wpAnyMIn F n P md l.toArray Q S m fuel listed' a' w)
  (hnd : noDeferB l.toArray = true := by kernel_rfl) (hs : Region.noSelect l.toArray = true := by kernel_rfl) (hf : Region.free md l.toArray listed i = true := by kernel_rfl) (hr : (Region.ready md l.toArray listed).contains i = true := by decide +kernel) (hc : comesB md l.toArray listed m i (deps md l.toArray i) = true := by kernel_rfl)
  (hQ : ∀ c a w, Q (.panic c) (a.put oi.dst v) w → Q (.panic c) a w := by exact fun _ _ _ h => h) (hb : ∀ w f, oi.about P w a.eval = some f → F.fn f := by exact fun _ _ _ => trivial) (hw : Region.wanted oi (yielded l.toArray a.tmps) = true := by rfl)
  (hy : ∀ w, S w → C w → (execOp a.eval oi).run P w = .ok (.value v) w := by (intro w' h0 h1; go_simp; try with_reducible rfl))
  (hl : listed.setIfInBounds i true = listed' := by (simp only [List.setIfInBounds_toArray, List.set_cons_zero, List.set_cons_succ]; exact rfl)) (ha : a.put oi.dst v = a' := by (simp only [Act.put, List.setIfInBounds_toArray, List.set_cons_zero, List.set_cons_succ]; exact rfl)) :
  wpAnyMIn F n P md l.toArray Q S m (fuel + 1) listed a w :=
 wpAnyMIn_take i hi hnd hs hf hr hc hQ hb hw (fun w h => hy w h (HF w h)) hS (by rw [hl, ha]; exact h)
theorem Ms (i : Nat) (hi : l[i]? = some oi) (hS : S w) (h : wpAnyMIn F n P md l.toArray Q S m fuel listed' a' w)
  (hnd : noDeferB l.toArray = true := by kernel_rfl) (hs : Region.noSelect l.toArray = true := by kernel_rfl) (hf : Region.free md l.toArray listed i = true := by kernel_rfl) (hr : (Region.ready md l.toArray listed).contains i = true := by decide +kernel) (hc : comesB md l.toArray listed m i (deps md l.toArray i) = true := by kernel_rfl)
  (hQ : ∀ c a w, Q (.panic c) (a.put oi.dst undef) w → Q (.panic c) a w := by exact fun _ _ _ h => h) (hb : ∀ w f, oi.about P w a.eval = some f → F.fn f := by exact fun _ _ _ => trivial) (hw : Region.wanted oi (yielded l.toArray a.tmps) = false := by rfl)
  (hl : listed.setIfInBounds i true = listed' := by (simp only [List.setIfInBounds_toArray, List.set_cons_zero, List.set_cons_succ]; exact rfl)) (ha : a.put oi.dst undef = a' := by (simp only [Act.put, List.setIfInBounds_toArray, List.set_cons_zero, List.set_cons_succ]; exact rfl)) :
  wpAnyMIn F n P md l.toArray Q S m (fuel + 1) listed a w :=
 wpAnyMIn_skip i hi hnd hs hf hr hc hQ hb hw hS (by rw [hl, ha]; exact h)
theorem Hr (i : Nat) (ho : l[i]? = some oi) (h : ∀ K' : Act → World → Prop, Lid (∀ a w, S w → wpAnyHIn F n P md l.toArray Q S fuel (listed.setIfInBounds i true) a w → K' a w) → Oper.wpIn F n P oi a w K' Q)
  (hr : Region.ready md l.toArray listed = [i] := by kernel_rfl) (hw : Region.wanted oi (yielded l.toArray a.tmps) = true := by rfl) : wpAnyHIn F n P md l.toArray Q S (fuel + 1) listed a w :=
 wpAnyHIn_ready [i] hr (by simp) (AllHIn.cons ho hw h AllHIn.nil)
theorem Hd (h : Q .normal a w) {ops : Array Oper} (hr : Region.ready md ops listed = [] := by kernel_rfl) : wpAnyHIn F n P md ops Q S fuel listed a w := wpAnyHIn_done hr h _
end
section
variable {P : Program} {Q : Exit → Act → World → Prop}
theorem Hg (S : World → Prop) (k : Nat) {ops : Array Oper} {listed : List Bool} {id : Nat} {a : Act} {w : World} (h : wpAnyHIn Fence.wide 3 P .any ops Q S k listed.toArray a w.drew) (hm : P.follows .mixedOrders = true := by kernel_rfl) (hk : ops.size = k := by rfl) (hl : List.replicate k false = listed := by rfl) :
  (Code.region id ops true).wp P Q a w := (wpIn_wide (n := 3)).1 (wpIn_region_held S k hm hk hl h)
end
theorem c1 {w : World} {p0 : Addr} {v0 : Value} (h0 : w.cell? p0 = some v0) : ∀ w', Gr w w' → w'.cell? p0 = some v0 := fun _ g => g.cell h0
theorem c2 {w : World} {p0 p1 : Addr} {v0 v1 : Value} (h0 : w.cell? p0 = some v0) (h1 : w.cell? p1 = some v1) : ∀ w', Gr w w' → w'.cell? p0 = some v0 ∧ w'.cell? p1 = some v1 := fun _ g => ⟨g.cell h0, g.cell h1⟩
theorem c3 {w : World} {p0 p1 p2 : Addr} {v0 v1 v2 : Value} (h0 : w.cell? p0 = some v0) (h1 : w.cell? p1 = some v1) (h2 : w.cell? p2 = some v2) : ∀ w', Gr w w' → w'.cell? p0 = some v0 ∧ w'.cell? p1 = some v1 ∧ w'.cell? p2 = some v2 := fun _ g => ⟨g.cell h0, g.cell h1, g.cell h2⟩
theorem c4 {w : World} {p0 p1 p2 p3 : Addr} {v0 v1 v2 v3 : Value} (h0 : w.cell? p0 = some v0) (h1 : w.cell? p1 = some v1) (h2 : w.cell? p2 = some v2) (h3 : w.cell? p3 = some v3) : ∀ w', Gr w w' → w'.cell? p0 = some v0 ∧ w'.cell? p1 = some v1 ∧ w'.cell? p2 = some v2 ∧ w'.cell? p3 = some v3 := fun _ g => ⟨g.cell h0, g.cell h1, g.cell h2, g.cell h3⟩
theorem c5 {w : World} {p0 p1 p2 p3 p4 : Addr} {v0 v1 v2 v3 v4 : Value} (h0 : w.cell? p0 = some v0) (h1 : w.cell? p1 = some v1) (h2 : w.cell? p2 = some v2) (h3 : w.cell? p3 = some v3) (h4 : w.cell? p4 = some v4) : ∀ w', Gr w w' → w'.cell? p0 = some v0 ∧ w'.cell? p1 = some v1 ∧ w'.cell? p2 = some v2 ∧ w'.cell? p3 = some v3 ∧ w'.cell? p4 = some v4 := fun _ g => ⟨g.cell h0, g.cell h1, g.cell h2, g.cell h3, g.cell h4⟩
theorem c6 {w : World} {p0 p1 p2 p3 p4 p5 : Addr} {v0 v1 v2 v3 v4 v5 : Value} (h0 : w.cell? p0 = some v0) (h1 : w.cell? p1 = some v1) (h2 : w.cell? p2 = some v2) (h3 : w.cell? p3 = some v3) (h4 : w.cell? p4 = some v4) (h5 : w.cell? p5 = some v5) : ∀ w', Gr w w' → w'.cell? p0 = some v0 ∧ w'.cell? p1 = some v1 ∧ w'.cell? p2 = some v2 ∧ w'.cell? p3 = some v3 ∧ w'.cell? p4 = some v4 ∧ w'.cell? p5 = some v5 := fun _ g => ⟨g.cell h0, g.cell h1, g.cell h2, g.cell h3, g.cell h4, g.cell h5⟩
theorem c7 {w : World} {p0 p1 p2 p3 p4 p5 p6 : Addr} {v0 v1 v2 v3 v4 v5 v6 : Value} (h0 : w.cell? p0 = some v0) (h1 : w.cell? p1 = some v1) (h2 : w.cell? p2 = some v2) (h3 : w.cell? p3 = some v3) (h4 : w.cell? p4 = some v4) (h5 : w.cell? p5 = some v5) (h6 : w.cell? p6 = some v6) : ∀ w', Gr w w' → w'.cell? p0 = some v0 ∧ w'.cell? p1 = some v1 ∧ w'.cell? p2 = some v2 ∧ w'.cell? p3 = some v3 ∧ w'.cell? p4 = some v4 ∧ w'.cell? p5 = some v5 ∧ w'.cell? p6 = some v6 := fun _ g => ⟨g.cell h0, g.cell h1, g.cell h2, g.cell h3, g.cell h4, g.cell h5, g.cell h6⟩
end Go.Firn
namespace Go.Firn
open Go.RowKit Go.Deep
theorem Gr.fresh {w w' : World} {cs : Array Value} {e : TypeId} (h : Gr (w.alloc (.cells cs e)) w') {j : Nat} {v : Value} (hv : cs[j]? = some v) : w'.cell? ⟨w.heap.size, j, none⟩ = some v ∧ w'.frozen? ⟨w.heap.size, j, none⟩ = false := by
 have hn := heap_alloc_new w (.cells cs e)
 refine ⟨h.cell (by rw [cell_of_row _ _ j cs e (0, 0) hn]; exact hv), ?_⟩
 rw [Below.frozen h (by simp)]
 unfold World.frozen?
 rw [hn]
 simp
theorem Gr.fresh' {w w' : World} {cs : Array Value} {e : TypeId} (h : Gr (w.alloc (.cells cs e)) w') {b j : Nat} {v : Value} (hb : w.heap.size = b) (hv : cs[j]? = some v) : w'.cell? ⟨b, j, none⟩ = some v ∧ w'.frozen? ⟨b, j, none⟩ = false := by
 subst hb; exact h.fresh hv
theorem Gr.setAt {a w : World} (h : Gr a w) {b j : Nat} (hb : a.heap.size ≤ b) (u : Value) : Gr a (w.setCell ⟨b, j, none⟩ u) := h.setCell (p := ⟨b, j, none⟩) hb u
def RdS (w : World) (a : Option Addr) (n : Nat) (f : Nat → ByteArray) (g : Nat → Int) : Prop :=
 n = 0 ∨ ∃ b o, a = some ⟨b, o, none⟩ ∧ ∀ i, i < n → w.cell? ⟨b, o + i * 2, none⟩ = some (.string (f i)) ∧ w.cell? ⟨b, o + i * 2 + 1, none⟩ = some (.int .i64 (g i))
theorem RdS.gr {w w' : World} {a : Option Addr} {n : Nat} {f : Nat → ByteArray} {g : Nat → Int} (h : RdS w a n f g) (k : Gr w w') : RdS w' a n f g := by
 rcases h with h | ⟨b, o, ha, hc⟩
 ·exact .inl h
 exact .inr ⟨b, o, ha, fun i hi => ⟨k.cell (hc i hi).1, k.cell (hc i hi).2⟩⟩
theorem RdS.congr {w : World} {a : Option Addr} {n : Nat} {f f' : Nat → ByteArray} {g g' : Nat → Int} (h : RdS w a n f g) (e : ∀ i, i < n → f i = f' i ∧ g i = g' i) : RdS w a n f' g' := by
 rcases h with h | ⟨b, o, ha, hc⟩
 ·exact .inl h
 exact .inr ⟨b, o, ha, fun i hi => by rw [(hc i hi).1, (hc i hi).2, (e i hi).1, (e i hi).2]; exact ⟨rfl, rfl⟩⟩
theorem RdS.nil (w : World) (a : Option Addr) (f : Nat → ByteArray) (g : Nat → Int) : RdS w a 0 f g := .inl rfl
theorem RdS.at {w : World} {a : Option Addr} {n : Nat} {f : Nat → ByteArray} {g : Nat → Int} (h : RdS w a n f g) {k : Nat} (hk : k < n) :
  ∃ b o, a = some ⟨b, o, none⟩ ∧ ∀ i, i < n → w.cell? ⟨b, o + i * 2, none⟩ = some (.string (f i)) ∧ w.cell? ⟨b, o + i * 2 + 1, none⟩ = some (.int .i64 (g i)) := by
 rcases h with h | h
 ·omega
 exact h
section
variable {H : Type} {enc : TypeId × Value → H} {P : Program} {w : World} {base : Nat} {spare : Nat → Bool} {held : Bool}
def strOf : Value → ByteArray
 | .string s => s
 | _ => ByteArray.empty
end
def bt (s : ByteArray) (i : Nat) : Nat := (s.data.toList.getD i 0).toNat
theorem bt_lt (s : ByteArray) (i : Nat) : bt s i < 256 := (s.data.toList.getD i 0).toNat_lt
theorem bt_get {s : ByteArray} {i : Nat} (h : i < s.size) : (s[i]'h).toNat = bt s i := by
 unfold bt
 have hl : i < s.data.toList.length := by simpa using h
 rw [List.getD_eq_getElem?_getD, List.getElem?_eq_getElem hl]
 rfl
theorem bt_look {P : Program} {t : TypeId} (ht : P.underlying t = some .string) {s : ByteArray} {i : Nat} (h : i < s.size) (w : World) : (Instr.index t (.string s) (.int .i64 (i : Int))).run P w = .ok (.int .u8 (bt s i : Nat)) w := by
 rw [run_index_string _ _ _ _ _ ht, dif_pos (by omega)]
 have : (s[(i : Int).toNat]'(by omega)).toNat = bt s i := bt_get h
 rw [this]
theorem conv_bytes {P : Program} {src dst e : TypeId} (hs : P.underlying src = some .string) (hd : P.underlying dst = some (.slice e)) (he : P.underlying e = some (.int .u8)) (s : ByteArray) (w : World) :
  ∃ b cp W1, (convert src dst (.string s)).run P w = .ok (.slice (some ⟨b, 0, none⟩) s.size cp) W1 ∧ Gr w W1 ∧ w.heap.size ≤ b ∧ b < W1.heap.size ∧ s.size ≤ cp ∧ (∀ j, j < s.size → W1.cell? ⟨b, j, none⟩ = some (.int .u8 (bt s j : Nat)) ∧ W1.frozen? ⟨b, j, none⟩ = false) := by
 refine ⟨w.heap.size, _, _, run_bytes_of_string w src dst e s hs hd he, ((Gr.refl w).drew).alloc _, Nat.le_refl _, by simp, grownCap_ge _ _ _ _, fun j hj => ?_⟩
 have hj' : j < s.data.size := hj
 refine ⟨?_, ?_⟩
 ·have := World.cell?_alloc_mark w.drew (bytesRow s (grownCap w s.size 0 e)) e ((bytesRow s (grownCap w s.size 0 e)).size, (bytesRow s (grownCap w s.size 0 e)).size + 1) j
  rw [bytesRow_at s _ j hj'] at this
  rw [show w.drew.heap.size = w.heap.size from rfl] at this
  rw [this, ← bt_get hj]
  rfl
 have := World.frozen?_alloc_mark w.drew (bytesRow s (grownCap w s.size 0 e)) e (bytesRow s (grownCap w s.size 0 e)).size ((bytesRow s (grownCap w s.size 0 e)).size + 1) j
 rw [show w.drew.heap.size = w.heap.size from rfl] at this
 rw [this]
 have : ¬ (bytesRow s (grownCap w s.size 0 e)).size ≤ j := by unfold bytesRow; simp; omega
 simp [this]
end Go.Firn
namespace Go.Proofs.YtehdemcfeoiecaaGreatDoor
open Go.Firn
def btw (a n b : Int) : Bool := decide (a ≤ n) && decide (n ≤ b)
def tkAt (s : ByteArray) (i : Nat) : Bool := decide (97 ≤ bt s i) && decide (bt s i ≤ 104) && (decide (i = 0) || decide (bt s (i - 1) ≤ bt s i))
def tkK (s : ByteArray) (k : Nat) : Bool := (List.range k).all (tkAt s)
theorem tkK_zero (s : ByteArray) : tkK s 0 = true := rfl
theorem tkK_succ (s : ByteArray) (k : Nat) : tkK s (k + 1) = (tkK s k && tkAt s k) := by
 unfold tkK
 rw [List.range_succ, List.all_append]
 simp
theorem tkK_stop {s : ByteArray} {k n : Nat} (hk : k < n) (h : tkAt s k = false) : tkK s n = false := by
 unfold tkK
 rw [List.all_eq_false]
 exact ⟨k, by simpa using hk, by rw [h]; simp⟩
theorem tkK_at {s : ByteArray} {k n : Nat} (h : tkK s n = true) (hk : k < n) : tkAt s k = true := by
 unfold tkK at h
 rw [List.all_eq_true] at h
 exact h k (by simpa using hk)
def isTk (s : ByteArray) : Bool := tkK s s.size && decide (s.size ≤ 12)
def isPr (s : ByteArray) (m : Int) : Bool := isTk s && btw 1 m 100000
def bLt (a b : ByteArray) : Bool := Op.bytesLess a.toList b.toList
theorem bLt_iff {a b : ByteArray} : bLt a b = true ↔ a.toList < b.toList := by unfold bLt; rw [Go.Proofs.bytesLess_eq]; simp
def vsAt (f : Nat → ByteArray) (g : Nat → Int) (i : Nat) : Bool := isPr (f i) (g i) && (decide (i = 0) || bLt (f (i - 1)) (f i))
def vsK (f : Nat → ByteArray) (g : Nat → Int) (k : Nat) : Bool := (List.range k).all (vsAt f g)
theorem vsK_zero (f : Nat → ByteArray) (g : Nat → Int) : vsK f g 0 = true := rfl
theorem vsK_succ (f : Nat → ByteArray) (g : Nat → Int) (k : Nat) : vsK f g (k + 1) = (vsK f g k && vsAt f g k) := by
 unfold vsK
 rw [List.range_succ, List.all_append]
 simp
theorem vsK_stop {f : Nat → ByteArray} {g : Nat → Int} {k n : Nat} (hk : k < n) (h : vsAt f g k = false) : vsK f g n = false := by
 unfold vsK
 rw [List.all_eq_false]
 exact ⟨k, by simpa using hk, by rw [h]; simp⟩
theorem vsK_at {f : Nat → ByteArray} {g : Nat → Int} {k n : Nat} (h : vsK f g n = true) (hk : k < n) : vsAt f g k = true := by
 unfold vsK at h
 rw [List.all_eq_true] at h
 exact h k (by simpa using hk)
def vS (f : Nat → ByteArray) (g : Nat → Int) (n : Nat) : Bool := vsK f g n && decide (n ≤ 40)
theorem bLt_cases (a b : ByteArray) : (bLt a b = true ∧ bLt b a = false ∧ (b.toList == a.toList) = false) ∨ (bLt a b = false ∧ bLt b a = false ∧ (b.toList == a.toList) = true) ∨ (bLt a b = false ∧ bLt b a = true ∧ (b.toList == a.toList) = false) := by
 unfold bLt
 rw [Go.Proofs.bytesLess_eq, Go.Proofs.bytesLess_eq]
 generalize a.toList = x
 generalize b.toList = y
 by_cases h1 : x < y
 ·have h2 : ¬ y < x := fun h => List.lt_irrefl _ (List.lt_trans h1 h)
  have h3 : y ≠ x := fun e => by subst e; exact List.lt_irrefl _ h1
  left; simp [h1, h2, h3]
 by_cases h2 : y < x
 ·have h3 : y ≠ x := fun e => by subst e; exact List.lt_irrefl _ h2
  right; right; simp [h1, h2, h3]
 have h3 : y = x := List.le_antisymm (List.not_lt.1 h1) (List.not_lt.1 h2)
 right; left; simp [h3, List.lt_irrefl]
def nmK (l : Nat → Int) (B : Int) (k : Nat) : Bool := (List.range k).all fun i => btw 0 (l i) B
theorem nmK_at {l : Nat → Int} {B : Int} {k n : Nat} (h : nmK l B n = true) (hk : k < n) : 0 ≤ l k ∧ l k ≤ B := by
 unfold nmK at h
 rw [List.all_eq_true] at h
 have := h k (by simpa using hk)
 simpa [btw] using this
def nmB (l : Nat → Int) (n : Nat) (B : Int) : Bool := nmK l B n && decide (n = 8)
theorem nmB_at {l : Nat → Int} {n : Nat} {B : Int} (h : nmB l n B = true) : n = 8 ∧ ∀ i, i < 8 → 0 ≤ l i ∧ l i ≤ B := by
 unfold nmB at h
 simp only [Bool.and_eq_true, decide_eq_true_eq] at h
 obtain ⟨h1, rfl⟩ := h
 exact ⟨rfl, fun i hi => nmK_at h1 hi⟩
def prd (l : Nat → Int) (s : ByteArray) (m : Int) : Nat → Int
 | 0 => m
 | k + 1 => prd l s m k * l (bt s k - 97)
def vlS (l : Nat → Int) (f : Nat → ByteArray) (g : Nat → Int) : Nat → Int
 | 0 => 0
 | k + 1 => vlS l f g k + prd l (f k) (g k) (f k).size
theorem prd_bd {l : Nat → Int} {s : ByteArray} {m : Int} (hl : ∀ i, i < 8 → 0 ≤ l i ∧ l i ≤ 10) (hs : isTk s = true) (hm : 1 ≤ m ∧ m ≤ 100000) : ∀ k, k ≤ s.size → 0 ≤ prd l s m k ∧ prd l s m k ≤ 100000 * 10 ^ k
 | 0, _ => by simp [prd]; omega
 | k + 1, hk => by
  have ih := prd_bd hl hs hm k (by omega)
  unfold isTk at hs
  rw [Bool.and_eq_true] at hs
  have t := tkK_at hs.1 (show k < s.size by omega)
  unfold tkAt at t
  simp only [Bool.and_eq_true, decide_eq_true_eq] at t
  have b := hl (bt s k - 97) (by omega)
  show 0 ≤ prd l s m k * l (bt s k - 97) ∧ prd l s m k * l (bt s k - 97) ≤ 100000 * 10 ^ (k + 1)
  refine ⟨Int.mul_nonneg ih.1 b.1, ?_⟩
  have := Int.mul_le_mul ih.2 b.2 b.1 (by have : (0 : Int) ≤ 10 ^ k := Int.pow_nonneg (by decide); omega)
  rw [Int.pow_succ]
  omega
theorem prd_top {l : Nat → Int} {s : ByteArray} {m : Int} (hl : ∀ i, i < 8 → 0 ≤ l i ∧ l i ≤ 10) (hs : isTk s = true) (hm : 1 ≤ m ∧ m ≤ 100000) {k : Nat} (hk : k ≤ s.size) : 0 ≤ prd l s m k ∧ prd l s m k ≤ 100000000000000000 := by
 have h := prd_bd hl hs hm k hk
 have h12 : s.size ≤ 12 := by unfold isTk at hs; rw [Bool.and_eq_true] at hs; simpa using hs.2
 have : (10 : Int) ^ k ≤ 10 ^ 12 := by
  have := Nat.pow_le_pow_right (n := 10) (by decide) (show k ≤ 12 by omega)
  have e : ∀ j : Nat, (10 : Int) ^ j = ((10 ^ j : Nat) : Int) := fun j => by simp
  rw [e, e]
  omega
 have e2 : (10 : Int) ^ 12 = 1000000000000 := by decide
 omega
theorem vS_at {f : Nat → ByteArray} {g : Nat → Int} {n : Nat} (h : vS f g n = true) : n ≤ 40 ∧ ∀ i, i < n → isTk (f i) = true ∧ 1 ≤ g i ∧ g i ≤ 100000 := by
 unfold vS at h
 rw [Bool.and_eq_true] at h
 refine ⟨by simpa using h.2, fun i hi => ?_⟩
 have t := vsK_at h.1 hi
 unfold vsAt isPr at t
 rw [Bool.and_eq_true, Bool.and_eq_true] at t
 exact ⟨t.1.1, by simpa [btw] using t.1.2⟩
theorem isTk_at {s : ByteArray} (h : isTk s = true) : s.size ≤ 12 ∧ ∀ i, i < s.size → 97 ≤ bt s i ∧ bt s i ≤ 104 := by
 unfold isTk at h
 rw [Bool.and_eq_true] at h
 refine ⟨by simpa using h.2, fun i hi => ?_⟩
 have t := tkK_at h.1 hi
 unfold tkAt at t
 simp only [Bool.and_eq_true, decide_eq_true_eq] at t
 omega
theorem vlS_bd {l : Nat → Int} {f : Nat → ByteArray} {g : Nat → Int} {n : Nat} (hl : ∀ i, i < 8 → 0 ≤ l i ∧ l i ≤ 10) (h : vS f g n = true) : ∀ k, k ≤ n → 0 ≤ vlS l f g k ∧ vlS l f g k ≤ 100000000000000000 * k
 | 0, _ => by simp [vlS]
 | k + 1, hk => by
  have ih := vlS_bd hl h k (by omega)
  have a := (vS_at h).2 k (by omega)
  have b := prd_top hl a.1 a.2 (Nat.le_refl (f k).size)
  show 0 ≤ vlS l f g k + prd l (f k) (g k) (f k).size ∧ vlS l f g k + prd l (f k) (g k) (f k).size ≤ _
  omega
end Go.Proofs.YtehdemcfeoiecaaGreatDoor
/-
 DERIVED: THE SHELF's CONTRACTS AT THIS DUMP, IN PLAIN WORDS (tools/lay-plain.mjs out of 'YtehdemcfeoiecaaGreatDoorShelf.lean', which tools/lay-shelf.mjs wrote): THE SAME DECLARATIONS UNDER THE SAME NAMES: 'import', 'namespace', 'open', 'def', 'theorem' AND NOTHING ELSE: no command of the shelf's: FOR A HAND-IN. Each laying: the table of numbers ('.._ren') and one theorem, a field a fact of the dump's own or the kernel's comparison; each contract: ONE APPLICATION.
-/
namespace Go.Proofs
open Go.Shelf
def Tryz.trim_ren : Go.Shelf.Ren := ⟨fun | 160 => 128 | 232 => 161 | 231 => 160 | 227 => 162 | 234 => 164 | 233 => 163 | 236 => 166 | 235 => 165 | 228 => 197 | 271 => 199 | 151 => 198 | 197 => 152 | 120 => 234 | 152 => 233 | 260 => 185 | 137 => 253 | 119 => 254 | 224 => 195 | 225 => 194 | 217 => 193 | 266 => 231 | n => n, fun | 9 => 9 | 4 => 4 | 3 => 3 | 5 => 5 | 117 => 202 | 116 => 201 | 0 => 0 | 124 => 205 | 21 => 21 | 105 => 196 | 46 => 219 | 119 => 253 | 139 => 256 | 138 => 255 | n => n, fun | 3 => 1 | 4 => 2 | n => n⟩
theorem Tryz.trim : Go.Proofs.Lays.n160 Tryz.prog Tryz.trim_ren := {
 mixed := by kernel_rfl
 f119 := Tryz.func254.trans (congrArg some (by kernel_rfl))
 f120 := Tryz.func234.trans (congrArg some (by kernel_rfl))
 f137 := Tryz.func253.trans (congrArg some (by kernel_rfl))
 f151 := Tryz.func198.trans (congrArg some (by kernel_rfl))
 f152 := Tryz.func233.trans (congrArg some (by kernel_rfl))
 f160 := Tryz.func128.trans (congrArg some (by kernel_rfl))
 f197 := Tryz.func152.trans (congrArg some (by kernel_rfl))
 f217 := Tryz.func193.trans (congrArg some (by kernel_rfl))
 f224 := Tryz.func195.trans (congrArg some (by kernel_rfl))
 f225 := Tryz.func194.trans (congrArg some (by kernel_rfl))
 f227 := Tryz.func162.trans (congrArg some (by kernel_rfl))
 f228 := Tryz.func197.trans (congrArg some (by kernel_rfl))
 f231 := Tryz.func160.trans (congrArg some (by kernel_rfl))
 f232 := Tryz.func161.trans (congrArg some (by kernel_rfl))
 f233 := Tryz.func163.trans (congrArg some (by kernel_rfl))
 f234 := Tryz.func164.trans (congrArg some (by kernel_rfl))
 f235 := Tryz.func165.trans (congrArg some (by kernel_rfl))
 f236 := Tryz.func166.trans (congrArg some (by kernel_rfl))
 f260 := Tryz.func185.trans (congrArg some (by kernel_rfl))
 f266 := Tryz.func231.trans (congrArg some (by kernel_rfl))
 f271 := Tryz.func199.trans (congrArg some (by kernel_rfl))
 t0 := Tryz.underlying0
 a0 := Tryz.isAgg0
 z0 := Tryz.sizeOf0
 v0 := Tryz.zeroValue0
 t3 := Tryz.underlying3
 a3 := Tryz.isAgg3
 z3 := Tryz.sizeOf3
 v3 := Tryz.zeroValue3
 t4 := Tryz.underlying4
 a4 := Tryz.isAgg4
 z4 := Tryz.sizeOf4
 v4 := Tryz.zeroValue4
 t5 := Tryz.underlying5
 a5 := Tryz.isAgg5
 z5 := Tryz.sizeOf5
 v5 := Tryz.zeroValue5
 t9 := Tryz.underlying9
 a9 := Tryz.isAgg9
 z9 := Tryz.sizeOf9
 v9 := Tryz.zeroValue9
 t21 := Tryz.underlying21
 a21 := Tryz.isAgg21
 z21 := Tryz.sizeOf21
 v21 := Tryz.zeroValue21
 t46 := Tryz.underlying219
 a46 := Tryz.isAgg219
 z46 := Tryz.sizeOf219
 v46 := Tryz.zeroValue219
 t105 := Tryz.underlying196
 a105 := Tryz.isAgg196
 z105 := Tryz.sizeOf196
 v105 := Tryz.zeroValue196
 t116 := Tryz.underlying201
 a116 := Tryz.isAgg201
 z116 := Tryz.sizeOf201
 t117 := Tryz.underlying202
 a117 := Tryz.isAgg202
 z117 := Tryz.sizeOf202
 v117 := Tryz.zeroValue202
 t119 := Tryz.underlying253
 a119 := Tryz.isAgg253
 z119 := Tryz.sizeOf253
 t124 := Tryz.underlying205
 a124 := Tryz.isAgg205
 z124 := Tryz.sizeOf205
 v124 := Tryz.zeroValue205
 t138 := Tryz.underlying255
 a138 := Tryz.isAgg255
 z138 := Tryz.sizeOf255
 v138 := Tryz.zeroValue255
 t139 := Tryz.underlying256
 a139 := Tryz.isAgg256
 z139 := Tryz.sizeOf256
 v139 := Tryz.zeroValue256
 g3 := by kernel_rfl
 g4 := by kernel_rfl }
def Tryz.cont8_ren : Go.Shelf.Ren := ⟨fun | 8 => 75 | 6 => 105 | n => n, fun | 22 => 23 | 23 => 3 | 25 => 61 | 4 => 4 | 3 => 3 | 0 => 0 | n => n, fun | n => n⟩
theorem Tryz.cont8 : Go.Proofs.SlLaysH.n8 Tryz.prog Tryz.cont8_ren := {
 mixed := by kernel_rfl
 f6 := ⟨Tryz.f105.name, by decide, Tryz.func105.trans (congrArg some (by kernel_rfl))⟩
 f8 := ⟨Tryz.f75.name, by decide, Tryz.func75.trans (congrArg some (by kernel_rfl))⟩
 t0 := Tryz.underlying0
 a0 := Tryz.isAgg0
 z0 := Tryz.sizeOf0
 v0 := Tryz.zeroValue0
 t3 := Tryz.underlying3
 a3 := Tryz.isAgg3
 z3 := Tryz.sizeOf3
 v3 := Tryz.zeroValue3
 t4 := Tryz.underlying4
 a4 := Tryz.isAgg4
 z4 := Tryz.sizeOf4
 v4 := Tryz.zeroValue4
 t22 := Tryz.underlying23
 a22 := Tryz.isAgg23
 z22 := Tryz.sizeOf23
 v22 := Tryz.zeroValue23
 a23 := Tryz.isAgg3
 z23 := Tryz.sizeOf3
 t25 := Tryz.underlying61
 a25 := Tryz.isAgg61
 z25 := Tryz.sizeOf61
 v25 := Tryz.zeroValue61 }
end Go.Proofs
namespace Go.Proofs.YtehdemcfeoiecaaGreatDoor
open Go.RowKit Go.Firn Go.Shelf
def RetQ (b : Bool) (w : World) (e : Ending) (w' : World) : Prop := e = .returned (.bool b) ∧ ∃ m, w' = w.drewN m
theorem RetQ.b {b : Bool} {w w' : World} {e : Ending} (h : RetQ b w e w') : RetB b w e w' := by
 obtain ⟨h1, m, rfl⟩ := h
 exact ⟨h1, (Gr.refl w).drewN m⟩
theorem drewN_more {w w' : World} (h : ∃ m, w' = w.drewN m) (k : Nat) : ∃ m, w'.drewN k = w.drewN m := by
 obtain ⟨m, rfl⟩ := h
 exact ⟨m + k, by simp [World.drewN, Nat.add_assoc]⟩
theorem between_any (a n b : Int) (w : World) :
  Calls Tryz.prog 56 #[.int .i64 a, .int .i64 n, .int .i64 b] w fun e w' => e = .returned (.bool (btw a n b)) ∧ w' = w := by
 by_cases h1 : a ≤ n
 ·have e : btw a n b = decide (n ≤ b) := by simp [btw, h1]
  go_enter Tryz.func56, Tryz.ntmps56
  go_wp2
  go_ret
  simp [e]
 have e : btw a n b = false := by simp [btw, h1]
 have e' := Lh e; clear e
 go_enter Tryz.func56, Tryz.ntmps56
 go_wp2
 go_ret
 simp [e'.out]
theorem isNaN8_any (x : Int) (w : World) : Calls Tryz.prog 200 #[.int .u8 x] w fun e w' => e = .returned (.bool false) ∧ w' = w := by
 go_enter Tryz.func200, Tryz.ntmps200
 go_wp2
 go_ret
 exact ⟨rfl, rfl⟩
theorem Less8_any (x y : Int) (w : World) : Calls Tryz.prog 167 #[.int .u8 x, .int .u8 y] w fun e w' => e = .returned (.bool (decide (x < y))) ∧ w' = w := by
 go_enter Tryz.func167, Tryz.ntmps167
 go_wp2_with (go_at_call 200; refine (isNaN8_any _ _).mono ?_; rintro e w1 ⟨rfl, rfl⟩)
 go_ret
 simp
theorem isTokens_any (s : ByteArray) (hs : s.size ≤ 9223372036854775807) (w : World) : Calls Tryz.prog 94 #[.string s] w (RetQ (isTk s) w) := by
 go_enter Tryz.func94, Tryz.ntmps94
 go_wp2
 go_loopw [6] (fun si wr => ∃ k : Nat, k ≤ s.size ∧ si = .int .i64 k ∧ Hid (tkK s k = true) ∧ Hid (∃ d, wr = w.drewN d)) (fun si _ => s.size - (intOf si).toNat)
 case atStart => exact ⟨0, Nat.zero_le _, rfl, tkK_zero s, 0, rfl⟩
 case round =>
  obtain ⟨k, hk, rfl, hK, hd⟩ := hrel
  by_cases hlt : k < s.size
  ·have i1 : (k : Int) < (s.size : Int) := by omega
   have l1 := bt_get hlt
   have B := Lh (bt_lt s k)
   by_cases h1 : bt s k < 97
   ·have E := Lh (show isTk s = false by unfold isTk; rw [tkK_stop hlt (by unfold tkAt; rw [decide_eq_false (show ¬ 97 ≤ bt s k by omega)]; rfl)]; rfl)
    generalize bt s k = x at *
    have c1 : decide ((x : Int) < 97) = true := by simp; omega
    clear h1
    go_wp2_with fail
    go_quiet (fail)
    go_wp2_with fail
    go_ret
    rw [E.out]
    exact ⟨rfl, drewN_more hd.out _⟩
   by_cases h2 : 105 ≤ bt s k
   ·have E := Lh (show isTk s = false by unfold isTk; rw [tkK_stop hlt (by unfold tkAt; rw [decide_eq_false (show ¬ bt s k ≤ 104 by omega)]; simp)]; rfl)
    generalize bt s k = x at *
    have c1 : decide ((x : Int) < 97) = false := by simp; omega
    have c2 : decide ((105 : Int) ≤ (x : Int)) = true := by simp; omega
    clear h1 h2
    go_wp2_with fail
    go_quiet (fail)
    go_wp2_with fail
    go_ret
    rw [E.out]
    exact ⟨rfl, drewN_more hd.out _⟩
   by_cases h3 : k = 0
   ·have K1 := Lh (show tkK s (k + 1) = true by rw [tkK_succ, hK.out]; unfold tkAt; rw [decide_eq_true (show 97 ≤ bt s k by omega), decide_eq_true (show bt s k ≤ 104 by omega), decide_eq_true h3]; rfl)
    subst h3
    have k0 : decide ((0 : Int) < ((0 : Nat) : Int)) = false := by decide
    generalize bt s 0 = x at *
    have c1 : decide ((x : Int) < 97) = false := by simp; omega
    have c2 : decide ((105 : Int) ≤ (x : Int)) = false := by simp; omega
    clear h1 h2
    go_wp2_with fail
    go_quiet (fail)
    go_wp2_with fail
    go_roundw
    case rel => exact ⟨0 + 1, hlt, by go_num, K1, drewN_more hd.out _⟩
    case measure => simp [intOf]; omega
   obtain ⟨j, hj⟩ : ∃ j, k = j + 1 := ⟨k - 1, by omega⟩
   have hjl : j < s.size := by omega
   have l2 := bt_get hjl
   have q1 : (k : Int) - 1 = (j : Int) := by omega
   have q2 : IntKind.i64.wrap ((k : Int) - 1) = (j : Int) := by rw [q1]; exact IntWalk.i64_in _ (by omega)
   have k0n : 0 < k := by omega
   by_cases h4 : bt s k < bt s j
   ·have E := Lh (show isTk s = false by
     unfold isTk
     rw [tkK_stop hlt (by unfold tkAt; rw [decide_eq_false h3, show k - 1 = j by omega, decide_eq_false (show ¬ bt s j ≤ bt s k by omega)]; simp)]
     rfl)
    clear hj
    generalize bt s k = x at *
    generalize bt s j = y at *
    have c1 : decide ((x : Int) < 97) = false := by simp; omega
    have c2 : decide ((105 : Int) ≤ (x : Int)) = false := by simp; omega
    clear h1 h2
    go_wp2_with fail
    go_quiet (fail)
    go_wp2_with fail
    go_ret
    rw [E.out]
    exact ⟨rfl, drewN_more hd.out _⟩
   have K1 := Lh (show tkK s (k + 1) = true by rw [tkK_succ, hK.out]; unfold tkAt; rw [decide_eq_true (show 97 ≤ bt s k by omega), decide_eq_true (show bt s k ≤ 104 by omega), show k - 1 = j by omega, decide_eq_true (show bt s j ≤ bt s k by omega)]; simp)
   clear hj
   generalize bt s k = x at *
   generalize bt s j = y at *
   have c1 : decide ((x : Int) < 97) = false := by simp; omega
   have c2 : decide ((105 : Int) ≤ (x : Int)) = false := by simp; omega
   clear h1 h2
   go_wp2_with fail
   go_quiet (fail)
   go_wp2_with fail
   go_roundw
   case rel => exact ⟨k + 1, hlt, by go_num, K1, drewN_more hd.out _⟩
   case measure => simp [intOf]; omega
  obtain rfl : k = s.size := by omega
  have i1 : ¬ (s.size : Int) < (s.size : Int) := by omega
  have E := Lh (show isTk s = decide ((s.size : Int) ≤ 12) by unfold isTk; rw [hK.out, Bool.true_and]; congr 1; apply propext; omega)
  go_wp2_with fail
  go_ret
  rw [E.out]
  exact ⟨rfl, hd.out⟩
def srtB (s : ByteArray) : Bool := (List.range (s.size - 1)).all fun i => decide (bt s i ≤ bt s (i + 1))
theorem IsSorted_any (s : ByteArray) (b cp : Nat) (hs : s.size ≤ 9223372036854775807) (w : World) (hc : ∀ j, j < s.size → w.cell? ⟨b, j, none⟩ = some (.int .u8 (bt s j : Nat))) :
  Calls Tryz.prog 129 #[.slice (some ⟨b, 0, none⟩) s.size cp] w (RetQ (srtB s) w) := by
 have HC := Lh hc
 have w1 : IntKind.i64.wrap ((s.size : Int) - 1) = (s.size : Int) - 1 := IntWalk.i64_in _ (by omega)
 clear hc
 go_enter Tryz.func129, Tryz.ntmps129
 go_wp2
 go_loopw [3] (fun si wr => ∃ k : Nat, (k ≤ s.size - 1 ∧ (si = .int .i64 k ∨ (s.size = 0 ∧ si = .int .i64 (-1)))) ∧ Hid (∀ i, k ≤ i → i < s.size - 1 → bt s i ≤ bt s (i + 1)) ∧ Hid (∃ d, wr = w.drewN d)) (fun si _ => (intOf si).toNat)
 case atStart =>
  refine ⟨s.size - 1, ⟨Nat.le_refl _, ?_⟩, Lh (fun i h1 h2 => by omega), Lh ⟨0, rfl⟩⟩
  by_cases h : s.size = 0
  ·right; exact ⟨h, by rw [h]; rfl⟩
  left; exact congrArg (Value.int .i64) (by omega)
 case round =>
  obtain ⟨k, ⟨hk, hv⟩, hK, hd⟩ := hrel
  rcases hv with rfl | ⟨h0, rfl⟩
  ·by_cases h1 : k = 0
   ·subst h1
    have E := Lh (show srtB s = true by unfold srtB; rw [List.all_eq_true]; intro i hi; simpa using hK.out i (Nat.zero_le _) (by simpa using hi))
    go_wp2_with fail
    go_ret
    rw [E.out]
    exact ⟨rfl, hd.out⟩
   obtain ⟨j, hj⟩ : ∃ j, k = j + 1 := ⟨k - 1, by omega⟩
   have ck := HC.out k (by omega)
   have cj := HC.out j (by omega)
   have q1 : (k : Int) - 1 = (j : Int) := by omega
   have q2 : IntKind.i64.wrap ((k : Int) - 1) = (j : Int) := by rw [q1]; exact IntWalk.i64_in _ (by omega)
   have k0 : (0 : Int) < (k : Int) := by omega
   have k1 : (k : Int) < (s.size : Int) := by omega
   have k2 : (j : Int) < (s.size : Int) := by omega
   have cj' : wr.cell? ⟨b, j, none⟩ = some (.int .u8 (bt s j : Nat)) := by obtain ⟨d, rfl⟩ := hd.out; exact cj
   have ck' : wr.cell? ⟨b, k, none⟩ = some (.int .u8 (bt s k : Nat)) := by obtain ⟨d, rfl⟩ := hd.out; exact ck
   have C := Lh (fun w1 => Less8_any ((bt s k : Nat) : Int) ((bt s j : Nat) : Int) w1)
   clear ck cj
   by_cases h4 : bt s k < bt s j
   ·have E := Lh (show srtB s = false by
     unfold srtB
     rw [List.all_eq_false]
     exact ⟨j, by simp; omega, by rw [← hj]; simp; omega⟩)
    have c3 : decide (((bt s k : Nat) : Int) < ((bt s j : Nat) : Int)) = true := by simpa using h4
    rw [c3] at C
    clear c3 h4 hj
    generalize bt s k = x at *
    generalize bt s j = y at *
    go_wp2_with fail
    go_quiet ((go_at_call 167; with_reducible exact Calls.quiet_of_same (C.out _)))
    go_wp2_with fail
    go_ret
    rw [E.out]
    exact ⟨rfl, drewN_more hd.out _⟩
   have K1 := Lh (show ∀ i, j ≤ i → i < s.size - 1 → bt s i ≤ bt s (i + 1) from fun i h1 h2 => by
    by_cases e : i = j
    ·subst e; rw [← hj]; omega
    exact hK.out i (by omega) h2)
   have c3 : decide (((bt s k : Nat) : Int) < ((bt s j : Nat) : Int)) = false := by simp; omega
   have jk : j ≤ s.size - 1 := by omega
   have jl : j < k := by omega
   rw [c3] at C
   clear c3 h4 hj
   generalize bt s k = x at *
   generalize bt s j = y at *
   go_wp2_with fail
   go_quiet ((go_at_call 167; with_reducible exact Calls.quiet_of_same (C.out _)))
   go_wp2_with fail
   go_roundw
   case rel => exact ⟨j, ⟨jk, .inl rfl⟩, K1, drewN_more hd.out _⟩
   case measure => simp [intOf]; omega
  have E := Lh (show srtB s = true by unfold srtB; rw [h0]; rfl)
  go_wp2_with fail
  go_ret
  rw [E.out]
  exact ⟨rfl, hd.out⟩
def tokB : ByteArray := ⟨#[97, 98, 99, 100, 101, 102, 103, 104]⟩
theorem tok_has (b : UInt8) : tokB.data.toList.contains b = (decide (97 ≤ b.toNat) && decide (b.toNat ≤ 104)) := by
 rw [Bool.eq_iff_iff]
 simp only [tokB, List.contains_iff_mem, List.mem_cons, List.not_mem_nil, or_false, Bool.and_eq_true, decide_eq_true_eq]
 constructor
 ·rintro (rfl | rfl | rfl | rfl | rfl | rfl | rfl | rfl) <;> decide
 rintro ⟨h1, h2⟩
 have : b.toNat = 97 ∨ b.toNat = 98 ∨ b.toNat = 99 ∨ b.toNat = 100 ∨ b.toNat = 101 ∨ b.toNat = 102 ∨ b.toNat = 103 ∨ b.toNat = 104 := by omega
 have e : ∀ c : UInt8, b.toNat = c.toNat → b = c := fun c h => UInt8.toNat_inj.1 h
 rcases this with h | h | h | h | h | h | h | h
 ·exact .inl (e 97 h)
 ·exact .inr (.inl (e 98 h))
 ·exact .inr (.inr (.inl (e 99 h)))
 ·exact .inr (.inr (.inr (.inl (e 100 h))))
 ·exact .inr (.inr (.inr (.inr (.inl (e 101 h)))))
 ·exact .inr (.inr (.inr (.inr (.inr (.inl (e 102 h))))))
 ·exact .inr (.inr (.inr (.inr (.inr (.inr (.inl (e 103 h)))))))
 exact .inr (.inr (.inr (.inr (.inr (.inr (.inr (e 104 h)))))))
theorem trim_all (l cs : List UInt8) : Lib.trimS l cs = [] ↔ ∀ b ∈ l, cs.contains b = true := by
 unfold Lib.trimS Lib.trimLeftS Lib.trimRightS
 constructor
 ·intro h b hb
  by_cases hc : cs.contains b = true
  ·exact hc
  exfalso
  have key : ∀ l : List UInt8, b ∈ l → b ∈ l.dropWhile (fun x => cs.contains x) := by
   intro l
   induction l with
   | nil => intro h; cases h
   | cons x l ih =>
    intro h
    rw [List.dropWhile_cons]
    split
    ·rename_i hx
     rcases List.mem_cons.1 h with e | h
     ·subst e; exact absurd hx hc
     exact ih h
    exact h
  have h1 := key _ (List.mem_reverse.2 (key _ (List.mem_reverse.2 hb)))
  rw [h] at h1
  cases h1
 intro h
 have key : ∀ l : List UInt8, (∀ b ∈ l, cs.contains b = true) → l.dropWhile (fun x => cs.contains x) = [] := by
  intro l
  induction l with
  | nil => intro _; rfl
  | cons x l ih =>
   intro h
   rw [List.dropWhile_cons, if_pos (h x (List.mem_cons_self))]
   exact ih fun b hb => h b (List.mem_cons_of_mem _ hb)
 rw [key l.reverse (fun b hb => h b (List.mem_reverse.1 hb))]
 rfl
end Go.Proofs.YtehdemcfeoiecaaGreatDoor
