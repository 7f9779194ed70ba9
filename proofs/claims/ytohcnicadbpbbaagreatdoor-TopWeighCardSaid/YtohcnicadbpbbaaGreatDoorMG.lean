/- A range over a function whose rounds are handed what lies in memory: the body may read it (Hx), and never leaves the loop. A range over a function whose rounds are handed what lies in memory and what came before (Pp): the body may read it, and never leaves the loop. Contracts of chapter 7: slices.Values, slices.AppendSeq and slices.Collect at the first numbers of a row. Slices of slices of ints: RdT (read), OwnT (a table of the call's own), append of one list. -/
import Derived.RangeFuncFrom
import Derived.RangeFuncBound
import Derived.RangeFuncCalls
import Derived.RangeFuncLeaves
import Derived.Shelf.Abstract
import Derived.Shelf.RegionOpen
import Derived.WalkKit
import Derived.OwnWalkIn
import Derived.TacticsInMore
import Derived.LoopNIn
import Derived.LoopIn
import Derived.Test.YtohcnicadbpbbaaGreatDoorME
import Derived.RangeFuncBox
namespace Go.Firn
open Go.RowKit

/-- The cells of the blocks of K lie as they lay. -/
def Kc (K : Nat → Prop) (W W' : World) : Prop := ∀ (p : Addr) (v : Value), K p.block → W.cell? p = some v → W'.cell? p = some v
theorem Kc.trans {K : Nat → Prop} {A B C : World} (h : Kc K A B) (k : Kc K B C) : Kc K A C := fun p v hp e => k p v hp (h p v hp e)
theorem Kc.alloc {K : Nat → Prop} (W : World) (o : Obj) : Kc K W (W.alloc o) := fun _ _ _ e => (World.cell?_alloc_lt _ _ _ (World.block_lt_of_cell? W _ e)).trans e
theorem cell_putObj {W : World} {l : Nat} {o o' : Obj} (h : W.heap[l]? = some o) (hc : o.isCells = false) {p : Addr} {v : Value} (e : W.cell? p = some v) : (W.putObj l o').cell? p = some v := by
  exact cell_kept e (grownBy_putObj' W l o') (fun r er => by cases er; exact ⟨o, h, hc⟩)
theorem Kc.putObj {K : Nat → Prop} (W : World) (l : Nat) (o o' : Obj) (h : W.heap[l]? = some o) (hc : o.isCells = false) : Kc K W (W.putObj l o') := fun _ _ _ e => cell_putObj h hc e

variable {F : Fence} {n : Nat} {P : Program}

/-- An iterator that hands over xs, each with what it says of memory. -/
def SeqM {α : Type} (F : Fence) (n : Nat) (P : Program) (g : Nat) (lb : Array Value) (encs : α → Array Value) (Hx : α → World → Prop) (Kp : World → World → Prop) (S : List α → Prop) (w : World) : Prop :=
  ∀ (l : Nat) (J : List α → World → Prop) (W : World), Below w.heap.size w W → AbidesFrom W.heap.size J →
    (∀ pre x W1, J pre W1 → Hx x W1 → YieldAt F (n - 1) P l (encs x) W1 fun e W' => e = .returned (.bool true) ∧ J (pre ++ [x]) W' ∧ Kp W1 W') →
    J [] W →
    CallsIn F n P g (#[.func (.yield l) #[] #[]] ++ lb) W fun e W' => (∃ v, e = .returned v) ∧ ∃ xs, S xs ∧ J xs W'

theorem rangeFunc_mem {α : Type} {g : Operand} {ps : Array Tmp} {assign body : Code} {Q : Exit → Act → World → Prop} {a : Act} {w : World}
    (hro : F.round = none) (h1 : 1 ≤ n) {gf : Nat} {lb : Array Value} (hg : a.eval g = .func (.func gf) #[] lb) (hFg : F.fn gf) (eg : ∀ args w, (callFunc gf args).run P w = .ok (.enter gf args) w)
    {encs : α → Array Value} {Hx : α → World → Prop} {Kp : World → World → Prop} {S : List α → Prop} {w0 : World} (hseq : SeqM F (n - 1) P gf lb encs Hx Kp S w0)
    (hKt : ∀ {A B C : World}, Kp A B → Kp B C → Kp A C) (hKb : ∀ (W : World) (l : Nat) (o o' : Obj), w.heap.size ≤ l → W.heap[l]? = some o → o.isCells = false → o.isWalk = false → Kp W (W.putObj l o'))
    (hHb : ∀ (x : α) (W : World) (l : Nat) (o o' : Obj), Hx x W → W.heap[l]? = some o → o.isCells = false → Hx x (W.putObj l o'))
    (hb0 : Below w0.heap.size w0 w) (hps : ∀ x, (encs x).size = ps.size)
    (I : List α → World → Prop) (hI : OwnFrom w.heap.size I) (h0 : I [] w) (a₁ : α → Act)
    (hassign : ∀ (l : Nat) (x : α) (W : World) (K : Act → World → Prop), K (a₁ x) W →
      assign.wpIn (F.inRound l) (n - 1 - 1) P (Exit.then K (fun _ _ _ => False)) { tmps := (ps.zip (encs x)).foldl (fun t (p, v) => t.setIfInBounds p v) a.tmps, defers := [] } W)
    (hbody : ∀ (l : Nat) (pre : List α) (x : α) (W : World), I pre W → Hx x W → body.wpIn (F.inRound l) (n - 1 - 1) P (ownPostK Kp I (fun _ _ _ => False) (pre ++ [x]) W) (a₁ x) W)
    (hdone : ∀ (D : Nat) (xs : List α) (W : World), w.heap.size ≤ D → S xs → I xs W → W.heap[D]? = some (.deferred (some [])) → Q .normal { a with defers := { target := .collected D, args := #[] } :: a.defers } W) :
    (Code.rangeFunc g ps assign body).wpIn F n P Q a w := by
  refine wpIn_rangeFunc ?_
  intro fn hfn
  rw [hro]
  obtain ⟨rec, hrec⟩ : ∃ rec : LoopState → Option Code → Loop, rec = fun st pe => { state := st, pending := pe, fn, tmps := a.tmps, params := ps, assign, body, defers := w.heap.size } := ⟨_, rfl⟩
  obtain ⟨W1, hW1⟩ : ∃ W1, (w.alloc (.deferred (some []))).alloc (.loop (rec .ready none)) = W1 := ⟨_, rfl⟩
  have loop0 : W1.heap[w.heap.size + 1]? = some (.loop (rec .ready none)) := by
    rw [← hW1]
    have := World.alloc_heap_new (w.alloc (.deferred (some []))) (.loop (rec .ready none))
    rwa [World.size_alloc] at this
  have defs0 : W1.heap[w.heap.size]? = some (.deferred (some [])) := by
    rw [← hW1]
    exact (Below.heap_alloc _ _ _ (by simp)).trans (World.alloc_heap_new w _)
  have inv0 : I [] W1 := by rw [← hW1]; exact hI.alloc _ (hI.alloc _ h0)
  have bel0 : Below w0.heap.size w0 W1 := by
    rw [← hW1]
    exact hb0.trans ((((Below.refl _ w).alloc (Nat.le_refl _) _).alloc (by simp) _).mono hb0.size)
  refine ⟨w.heap.size + 1, [{ target := .collected w.heap.size, args := #[] }], W1, { target := .fn (.func gf) lb, args := #[.func (.yield (w.heap.size + 1)) #[] #[]] }, W1, gf,
    #[.func (.yield (w.heap.size + 1)) #[] #[]] ++ lb, W1, ?_, ?_, ?_, ?_, fun _ => h1, ?_⟩
  · rw [← hW1, hrec]; exact run_enterLoop_outer _ _ _ _ _
  · simp only [resolve, hg]
    simp [go_sem]
  · intro f' hf'; simp [Target.leads] at hf'; subst hf'; exact hFg
  · simp [invoke, go_sem, eg]
  · have turn : ∀ {A B : World} {row : Option Nat}, (∀ r, row = some r → W1.heap.size ≤ r ∧ ∃ o : Obj, A.heap[r]? = some o ∧ o.isWalk = true) → (∀ r, row = some r → w.heap.size ≤ r ∧ ∃ o : Obj, A.heap[r]? = some o ∧ o.isCells = false) :=
      fun hr r e => by obtain ⟨hB, o, ho, hw⟩ := hr r e; exact ⟨by rw [← hW1] at hB; simp at hB; omega, o, ho, Obj.not_cells_of_walk hw⟩
    refine (hseq (w.heap.size + 1)
      (fun pre W => I pre W ∧ W.heap[w.heap.size + 1]? = some (.loop (rec .ready none)) ∧ W.heap[w.heap.size]? = some (.deferred (some [])))
      W1 bel0
      (fun s A B row hs hg' hr => ⟨hI s A B row hs.1 hg' (turn (B := B) hr), (grownBy_keeps hg' (fun r e => (hr r e).2) hs.2.1 rfl).trans hs.2.1, (grownBy_keeps hg' (fun r e => (hr r e).2) hs.2.2 rfl).trans hs.2.2⟩)
      ?_ ⟨inv0, loop0, defs0⟩).mono ?_
    · rintro pre x W ⟨hi, hl, hk⟩ hx
      have hlt : w.heap.size + 1 < W.heap.size := (Array.getElem?_eq_some_iff.1 hl).1
      have hy := run_yield (P := P) (args := encs x) hl (by rw [hrec]; exact hps x)
      rw [hrec] at hy
      refine ⟨fn, _, assign, body, hy, roundIn_of_wpIn hfn (hassign _ x W _ ⟨_, run_beginRound hl (by rw [hrec]), ?_⟩)⟩
      have hl2 : (W.putObj (w.heap.size + 1) (.loop { rec .ready none with state := .busy })).heap[w.heap.size + 1]? = some (.loop { rec .ready none with state := .busy }) := World.putObj_heap_same hlt
      have hk2 : (W.putObj (w.heap.size + 1) (.loop { rec .ready none with state := .busy })).heap[w.heap.size]? = some (.deferred (some [])) := (World.putObj_heap_other (by omega)).trans hk
      have hw2 : Kp W (W.putObj (w.heap.size + 1) (.loop { rec .ready none with state := .busy })) := hKb _ _ _ _ (by omega) hl rfl rfl
      refine wpIn_mono (hbody _ pre x _ (hI.putObj _ hi (by omega) hl rfl) (hHb _ _ _ _ _ hx hl rfl)) ?_
      rintro e a3 W3 hp
      cases e with
      | normal =>
        obtain ⟨hk3, hkp3, hi3⟩ := hp
        have hl3 := hk3.same _ _ hl2 rfl
        have er := run_endRound (P := P) none hl3
        rw [hrec] at er hl3
        refine ⟨_, _, er, rfl, ⟨hI.putObj _ hi3 (by omega) hl3 rfl, ?_, (World.putObj_heap_other (by omega)).trans (hk3.same _ _ hk2 rfl)⟩, hKt (hKt hw2 hkp3) (hKb _ _ _ _ (by omega) hl3 rfl rfl)⟩
        rw [hrec]
        exact World.putObj_heap_same (Array.getElem?_eq_some_iff.1 hl3).1
      | ret => exact hp.2.elim
      | exit id => exact hp.2.elim
      | goto t => exact hp.2.elim
      | panic ch => exact hp.elim
      | outgrown => exact hp.elim
    · rintro e W2 ⟨⟨v, rfl⟩, xs, hS, hi, hl, hk⟩
      exact ⟨none, _, by have := run_endLoop (P := P) hl (by rw [hrec]; simp); rw [hrec] at this; exact this, hdone _ xs _ (Nat.le_refl _) hS (hI.putObj _ hi (by omega) hl rfl) ((World.putObj_heap_other (by omega)).trans hk)⟩

end Go.Firn

namespace Go.Firn
open Go.RowKit
variable {F : Fence} {n : Nat} {P : Program}

/-- An iterator that hands over xs, each with what it says of memory. -/
def SeqP {α : Type} (F : Fence) (n : Nat) (P : Program) (g : Nat) (lb : Array Value) (encs : α → Array Value) (Pp : List α → α → Prop) (Hx : α → World → Prop) (Kp : World → World → Prop) (S : List α → Prop) (w : World) : Prop :=
  ∀ (l : Nat) (J : List α → World → Prop) (W : World), Below w.heap.size w W → AbidesFrom W.heap.size J →
    (∀ pre x W1, Pp pre x → J pre W1 → Hx x W1 → YieldAt F (n - 1) P l (encs x) W1 fun e W' => e = .returned (.bool true) ∧ J (pre ++ [x]) W' ∧ Kp W1 W') →
    J [] W →
    CallsIn F n P g (#[.func (.yield l) #[] #[]] ++ lb) W fun e W' => (∃ v, e = .returned v) ∧ ∃ xs, S xs ∧ J xs W'

theorem rangeFunc_memP {α : Type} {g : Operand} {ps : Array Tmp} {assign body : Code} {Q : Exit → Act → World → Prop} {a : Act} {w : World}
    (hro : F.round = none) (h1 : 1 ≤ n) {gf : Nat} {lb : Array Value} (hg : a.eval g = .func (.func gf) #[] lb) (hFg : F.fn gf) (eg : ∀ args w, (callFunc gf args).run P w = .ok (.enter gf args) w)
    {encs : α → Array Value} {Pp : List α → α → Prop} {Hx : α → World → Prop} {Kp : World → World → Prop} {S : List α → Prop} {w0 : World} (hseq : SeqP F (n - 1) P gf lb encs Pp Hx Kp S w0)
    (hKt : ∀ {A B C : World}, Kp A B → Kp B C → Kp A C) (hKb : ∀ (W : World) (l : Nat) (o o' : Obj), w.heap.size ≤ l → W.heap[l]? = some o → o.isCells = false → o.isWalk = false → Kp W (W.putObj l o'))
    (hHb : ∀ (x : α) (W : World) (l : Nat) (o o' : Obj), Hx x W → W.heap[l]? = some o → o.isCells = false → Hx x (W.putObj l o'))
    (hb0 : Below w0.heap.size w0 w) (hps : ∀ x, (encs x).size = ps.size)
    (I : List α → World → Prop) (hI : OwnFrom w.heap.size I) (h0 : I [] w) (a₁ : α → Act)
    (hassign : ∀ (l : Nat) (x : α) (W : World) (K : Act → World → Prop), K (a₁ x) W →
      assign.wpIn (F.inRound l) (n - 1 - 1) P (Exit.then K (fun _ _ _ => False)) { tmps := (ps.zip (encs x)).foldl (fun t (p, v) => t.setIfInBounds p v) a.tmps, defers := [] } W)
    (hbody : ∀ (l : Nat) (pre : List α) (x : α) (W : World), Pp pre x → I pre W → Hx x W → body.wpIn (F.inRound l) (n - 1 - 1) P (ownPostK Kp I (fun _ _ _ => False) (pre ++ [x]) W) (a₁ x) W)
    (hdone : ∀ (D : Nat) (xs : List α) (W : World), w.heap.size ≤ D → S xs → I xs W → W.heap[D]? = some (.deferred (some [])) → Q .normal { a with defers := { target := .collected D, args := #[] } :: a.defers } W) :
    (Code.rangeFunc g ps assign body).wpIn F n P Q a w := by
  refine wpIn_rangeFunc ?_
  intro fn hfn
  rw [hro]
  obtain ⟨rec, hrec⟩ : ∃ rec : LoopState → Option Code → Loop, rec = fun st pe => { state := st, pending := pe, fn, tmps := a.tmps, params := ps, assign, body, defers := w.heap.size } := ⟨_, rfl⟩
  obtain ⟨W1, hW1⟩ : ∃ W1, (w.alloc (.deferred (some []))).alloc (.loop (rec .ready none)) = W1 := ⟨_, rfl⟩
  have loop0 : W1.heap[w.heap.size + 1]? = some (.loop (rec .ready none)) := by
    rw [← hW1]
    have := World.alloc_heap_new (w.alloc (.deferred (some []))) (.loop (rec .ready none))
    rwa [World.size_alloc] at this
  have defs0 : W1.heap[w.heap.size]? = some (.deferred (some [])) := by
    rw [← hW1]
    exact (Below.heap_alloc _ _ _ (by simp)).trans (World.alloc_heap_new w _)
  have inv0 : I [] W1 := by rw [← hW1]; exact hI.alloc _ (hI.alloc _ h0)
  have bel0 : Below w0.heap.size w0 W1 := by
    rw [← hW1]
    exact hb0.trans ((((Below.refl _ w).alloc (Nat.le_refl _) _).alloc (by simp) _).mono hb0.size)
  refine ⟨w.heap.size + 1, [{ target := .collected w.heap.size, args := #[] }], W1, { target := .fn (.func gf) lb, args := #[.func (.yield (w.heap.size + 1)) #[] #[]] }, W1, gf,
    #[.func (.yield (w.heap.size + 1)) #[] #[]] ++ lb, W1, ?_, ?_, ?_, ?_, fun _ => h1, ?_⟩
  · rw [← hW1, hrec]; exact run_enterLoop_outer _ _ _ _ _
  · simp only [resolve, hg]
    simp [go_sem]
  · intro f' hf'; simp [Target.leads] at hf'; subst hf'; exact hFg
  · simp [invoke, go_sem, eg]
  · have turn : ∀ {A B : World} {row : Option Nat}, (∀ r, row = some r → W1.heap.size ≤ r ∧ ∃ o : Obj, A.heap[r]? = some o ∧ o.isWalk = true) → (∀ r, row = some r → w.heap.size ≤ r ∧ ∃ o : Obj, A.heap[r]? = some o ∧ o.isCells = false) :=
      fun hr r e => by obtain ⟨hB, o, ho, hw⟩ := hr r e; exact ⟨by rw [← hW1] at hB; simp at hB; omega, o, ho, Obj.not_cells_of_walk hw⟩
    refine (hseq (w.heap.size + 1)
      (fun pre W => I pre W ∧ W.heap[w.heap.size + 1]? = some (.loop (rec .ready none)) ∧ W.heap[w.heap.size]? = some (.deferred (some [])))
      W1 bel0
      (fun s A B row hs hg' hr => ⟨hI s A B row hs.1 hg' (turn (B := B) hr), (grownBy_keeps hg' (fun r e => (hr r e).2) hs.2.1 rfl).trans hs.2.1, (grownBy_keeps hg' (fun r e => (hr r e).2) hs.2.2 rfl).trans hs.2.2⟩)
      ?_ ⟨inv0, loop0, defs0⟩).mono ?_
    · rintro pre x W hpp ⟨hi, hl, hk⟩ hx
      have hlt : w.heap.size + 1 < W.heap.size := (Array.getElem?_eq_some_iff.1 hl).1
      have hy := run_yield (P := P) (args := encs x) hl (by rw [hrec]; exact hps x)
      rw [hrec] at hy
      refine ⟨fn, _, assign, body, hy, roundIn_of_wpIn hfn (hassign _ x W _ ⟨_, run_beginRound hl (by rw [hrec]), ?_⟩)⟩
      have hl2 : (W.putObj (w.heap.size + 1) (.loop { rec .ready none with state := .busy })).heap[w.heap.size + 1]? = some (.loop { rec .ready none with state := .busy }) := World.putObj_heap_same hlt
      have hk2 : (W.putObj (w.heap.size + 1) (.loop { rec .ready none with state := .busy })).heap[w.heap.size]? = some (.deferred (some [])) := (World.putObj_heap_other (by omega)).trans hk
      have hw2 : Kp W (W.putObj (w.heap.size + 1) (.loop { rec .ready none with state := .busy })) := hKb _ _ _ _ (by omega) hl rfl rfl
      refine wpIn_mono (hbody _ pre x _ hpp (hI.putObj _ hi (by omega) hl rfl) (hHb _ _ _ _ _ hx hl rfl)) ?_
      rintro e a3 W3 hp
      cases e with
      | normal =>
        obtain ⟨hk3, hkp3, hi3⟩ := hp
        have hl3 := hk3.same _ _ hl2 rfl
        have er := run_endRound (P := P) none hl3
        rw [hrec] at er hl3
        refine ⟨_, _, er, rfl, ⟨hI.putObj _ hi3 (by omega) hl3 rfl, ?_, (World.putObj_heap_other (by omega)).trans (hk3.same _ _ hk2 rfl)⟩, hKt (hKt hw2 hkp3) (hKb _ _ _ _ (by omega) hl3 rfl rfl)⟩
        rw [hrec]
        exact World.putObj_heap_same (Array.getElem?_eq_some_iff.1 hl3).1
      | ret => exact hp.2.elim
      | exit id => exact hp.2.elim
      | goto t => exact hp.2.elim
      | panic ch => exact hp.elim
      | outgrown => exact hp.elim
    · rintro e W2 ⟨⟨v, rfl⟩, xs, hS, hi, hl, hk⟩
      exact ⟨none, _, by have := run_endLoop (P := P) hl (by rw [hrec]; simp); rw [hrec] at this; exact this, hdone _ xs _ (Nat.le_refl _) hS (hI.putObj _ hi (by omega) hl rfl) ((World.putObj_heap_other (by omega)).trans hk)⟩

end Go.Firn

namespace Go.Firn
open Go.RowKit
theorem grows {w w' : World} (g : Gr w w') : w.grownBy w' none := ⟨g.os, g.tape, g.output, Gr.size g, fun k hk _ => Below.block g k hk⟩
theorem Gr.others {W W' : World} (h : Gr W W') : KeepsOthers W W' := ⟨h.size, fun k o hk _ => by
  have := Below.block h k (Array.getElem?_eq_some_iff.1 hk).1
  exact this.trans hk⟩
theorem _root_.Go.Boxed.gr {W W' : World} {B : Nat} {t : TypeId} {v : Value} (h : Boxed W B t v) (g : Gr W W') : Boxed W' B t v := h.kept (grows g) (by simp)
theorem ownsRow_gr {W W' : World} {base : Nat} {e : TypeId} {size : Nat} {v : Value} {k : Nat} {xs : List Value} (h : W.ownsRow base e size v k xs) (g : Gr W W') : W'.ownsRow base e size v k xs := h.kept (grows g) (by cases v.ownBlock <;> simp)
theorem kc_of_wx {X : Nat → Prop} {W0 W W' : World} (h : Wx X W0 W) (h' : Wx X W0 W') : Kc (fun k => k < W0.heap.size ∧ ¬ X k) W W' := fun p v hp e => by
  have b1 := h.block p.block hp.1 hp.2
  have b2 := h'.block p.block hp.1 hp.2
  unfold World.cell? at *
  rw [b2, ← b1]
  exact e
end Go.Firn
namespace Go.Proofs.YtohcnicadbpbbaaGreatDoor
open Go.RowKit Go.Firn Go.Shelf
attribute [local go_sem] Oper.semAt_some
theorem wide_fn (f : FuncId) : Fence.wide.fn f = True := rfl
attribute [local simp] wide_fn

/-- A number, as it is handed to a round. -/
def encI (x : Int) : Array Value := #[.int .i64 x]
def lsI (X : Nat → Int) (k : Nat) : List Int := (List.range k).map X
theorem lsI_succ (X : Nat → Int) (k : Nat) : lsI X (k + 1) = lsI X k ++ [X k] := by unfold lsI; rw [List.range_succ, List.map_append]; rfl
theorem lsI_len (X : Nat → Int) (k : Nat) : (lsI X k).length = k := by simp [lsI]

set_option maxHeartbeats 1000000 in
set_option maxRecDepth 100000 in
theorem values1_seqP {K : Nat → Prop} (m : Nat) (hm : 1 ≤ m) (bs n c : Nat) (av : Option Addr) (X : Nat → Int) (w : World) (hn : n ≤ 1000) (hbs : w.cell? ⟨bs, 0, none⟩ = some (.slice av n c)) (hr : RdI w av n X) (hK : ∀ p : Addr, av = some p → 0 < n → K p.block) :
    SeqP Fence.wide m Tryz.prog 57 #[.pointer (some ⟨bs, 0, none⟩)] encI (fun pre _ => pre.length < 1000) (fun _ _ => True) (Kc K) (fun xs => xs = lsI X n) w := fun l J W hW hJ hY h0 => by
  have HB : W.cell? ⟨bs, 0, none⟩ = some (.slice av n c) := by
    rw [Below.cell hW (p := ⟨bs, 0, none⟩) (World.block_lt_of_cell? w _ hbs)]; exact hbs
  have HR := Lib.hid (hr.gr hW)
  have HK := Lib.hid hK
  have YY := Lib.hid hY
  have H0 := Lib.hid (show J (lsI X 0) W from h0)
  clear hr hbs hY hJ h0 hW hK
  refine callsIn_of_wp Tryz.func57 rfl trivial ?_ rfl
  simp only [Tryz.ntmps57, List.size_toArray, List.length_cons, List.length_nil, Nat.reduceAdd, Nat.reduceSub, Array.replicate_succ, Array.replicate_zero, List.push_toArray, List.append_toArray, List.nil_append, List.cons_append]
  gi_wp2
  clear HB
  gi_loopw [7] (fun s wr => ∃ k : Nat, k ≤ n ∧ s = .int .i64 k ∧ Hid (J (lsI X k) wr) ∧ Hid (Kc K W wr)) (fun s _ => n - (intOf s).toNat)
  case atStart => exact ⟨0, Nat.zero_le _, rfl, H0, Lib.hid (fun _ _ _ h => h)⟩
  case round =>
    obtain ⟨k, hk, rfl, hJp, hKc⟩ := hrel
    by_cases hlt : k < n
    · have i1 : (k : Int) < n := by omega
      obtain ⟨b, o, e, hc⟩ := HR.out.at hlt
      have kb : K b := HK.out _ e (by omega)
      have cx := hKc.out ⟨b, o + k, none⟩ _ kb (hc k hlt)
      subst e
      clear kb
      have E := Lib.hid (lsI_succ X k)
      have L := lsI_len X k
      obtain ⟨fn, tmps, assign, body, hy, hR⟩ := YY.out (lsI X k) (X k) wr (by omega) hJp.out trivial
      have hy' : (Instr.yield l #[.int .i64 (X k)]).run Tryz.prog wr = .ok (.round l fn tmps assign body) wr := hy
      have HRR := Lib.hid hR
      rw [← E.out] at HRR
      clear hy hR hc L E
      generalize X k = x at *
      gi_wp2
      refine HRR.out.mono ?_
      rintro e W' ⟨rfl, hJ', hk'⟩
      have J5 := Lib.hid hJ'
      have K5 := Lib.hid (hKc.out.trans hk')
      clear hJ' hk'
      gi_wp2
      go_roundw
      case rel => exact ⟨k + 1, hlt, by go_num, J5, K5⟩
      case measure => simp [intOf]; omega
    · have n1 : (n : Int) ≤ (k : Int) := by omega
      have P3 := Lib.hid (show lsI X k = lsI X n by rw [show k = n by omega])
      clear hlt
      gi_wp2
      go_end0
      exact ⟨⟨_, rfl⟩, lsI X k, P3.out, hJp.out⟩

/-- The caller's invariant: what came so far lies in a row of the call's own. -/
def Isq (b4 : Nat) (W0 : World) (pre : List Int) (W : World) : Prop :=
  (∃ v, Boxed W b4 22 v ∧ W.ownsRow W0.heap.size 3 1 v pre.length (pre.map (Value.int .i64))) ∧ Wx (fun k => k = b4) W0 W
theorem Isq.own (b4 : Nat) (W0 : World) : OwnFrom W0.heap.size (Isq b4 W0) := fun _ A B row hs hg hr => by
  obtain ⟨⟨v, hv, hrow⟩, h2⟩ := hs
  refine ⟨⟨v, hv.kept hg (fun e' => ?_), hrow.kept hg ?_⟩, h2.own hg (fun r e => (hr r e).1)⟩
  · obtain ⟨_, o, ho, hc⟩ := hr b4 e'.symm
    rw [show A.heap[b4]? = _ from hv] at ho; cases ho; cases hc
  · rcases hrow.2 with ⟨rfl, _⟩ | ⟨g, cap, cur, rfl, _, hgb, _⟩
    · exact .inl rfl
    · refine .inr fun e' => ?_
      obtain ⟨_, o, ho, hc⟩ := hr g (by simpa [Value.ownBlock] using e'.symm)
      rw [hgb] at ho; cases ho; cases hc
/-- The end of a round. -/
theorem seq_round {b4 : Nat} {W0 W w5 : World} {pre : List Int} {x : Int} {v v' : Value} {tmp : Obj} (hX : Wx (fun k => k = b4) W0 W) (hv : Boxed W b4 22 v) (hrow : W.ownsRow W0.heap.size 3 1 v pre.length (pre.map (Value.int .i64)))
    (h1 : w5.ownsRow W0.heap.size 3 1 v' (pre.length + 1) (pre.map (Value.int .i64) ++ [.int .i64 x])) (h2 : (W.alloc tmp).grownBy w5 v.ownBlock) {W' : World} (hW' : Gr (w5.setCell ⟨b4, 0, none⟩ v') W') :
    KeepsOthers W W' ∧ Kc (fun k => k < W0.heap.size ∧ ¬ k = b4) W W' ∧ Isq b4 W0 (pre ++ [x]) W' := by
  have hv5 : Boxed w5 b4 22 v := (hv.alloc tmp).kept h2 (hv.not_row (by decide) hrow)
  have hv6 := hv5.set v'
  have hr6 := h1.kept (grownBy_setCell' w5 b4 v') (.inr (hv5.not_row (by decide) h1).symm)
  have own : ∀ r, v.ownBlock = some r → W0.heap.size ≤ r := fun r er => by
    rcases hrow.2 with ⟨rfl, _⟩ | ⟨g, cap, cur, rfl, hb, _, _⟩
    · simp [Value.ownBlock] at er
    · obtain rfl : g = r := by simpa [Value.ownBlock] using er
      exact hb
  have hw : Wx (fun k => k = b4) W0 W' := ((((hX.trans (Wx.of_gr ((Gr.refl W).alloc tmp))).own h2 own).set rfl 0 v').trans (Wx.of_gr hW'))
  refine ⟨?_, kc_of_wx hX hw, ⟨v', hv6.gr hW', ?_⟩, hw⟩
  · refine ((((KeepsOthers.alloc W tmp)).trans (KeepsOthers.of_grownBy h2 fun j o ej hj => ?_)).trans (KeepsOthers.setCell _ _ _)).trans (Gr.others hW')
    rcases (hrow.alloc tmp).2 with ⟨rfl, _⟩ | ⟨g, cap, cur, rfl, _, hgb, _⟩
    · simp [Value.ownBlock] at ej
    · obtain rfl : g = j := by simpa [Value.ownBlock] using ej
      rw [hgb] at hj; cases hj; rfl
  · rw [List.length_append, List.map_append]
    exact ownsRow_gr hr6 hW'

theorem info_int3 : ∃ i, Tryz.prog.info? 3 = some i ∧ i.zero = some (.int .i64 0) ∧ i.size = 1 ∧ i.bytes = 8 := info_int Tryz.info3
theorem ownsRow_pat {w : World} {base k : Nat} {v : Value} {xs : List Value} (h : w.ownsRow base 3 1 v (k + 1) xs) : ∃ g c, v = .slice (some ⟨g, 0, none⟩) (k + 1) c := by
  rcases h.2 with ⟨_, h0⟩ | ⟨g, cap, _, rfl, _⟩
  · omega
  · exact ⟨g, cap, rfl⟩
theorem ownsRow_low {W : World} {base base' : Nat} {e : TypeId} {size : Nat} {v : Value} {k : Nat} {xs : List Value} (h : W.ownsRow base e size v k xs) (hb : base' ≤ base) : W.ownsRow base' e size v k xs := by
  refine ⟨h.1, ?_⟩
  rcases h.2 with h1 | ⟨g, cap, cur, h1, h2, h3⟩
  · exact .inl h1
  · exact .inr ⟨g, cap, cur, h1, Nat.le_trans hb h2, h3⟩
theorem ints_lsI (X : Nat → Int) (n : Nat) : (lsI X n).map (Value.int .i64) = ints n X := by unfold lsI ints; rw [List.map_map]; rfl

set_option maxHeartbeats 4000000 in
set_option maxRecDepth 100000 in
theorem AppendSeq_any (bs n c : Nat) (av : Option Addr) (X : Nat → Int) (w : World) (hn : n ≤ 1000) (hbs : w.cell? ⟨bs, 0, none⟩ = some (.slice av n c)) (hr : RdI w av n X) :
    Calls Tryz.prog 74 #[.slice none 0 0, .func (.func 57) #[] #[.pointer (some ⟨bs, 0, none⟩)]] w fun e w' => ∃ v, e = .returned v ∧ OwnI w 3 w' v n X := by
  have HB := Lib.hid hbs
  have HR := Lib.hid hr
  have lbs := World.block_lt_of_cell? w _ hbs
  simp only at lbs
  clear hbs hr
  refine (callsIn_wide (n := 3)).1 ?_
  refine callsIn_of_wp_marks Tryz.func74 rfl trivial ?_ rfl
  simp only [Tryz.ntmps74, List.size_toArray, List.length_cons, List.length_nil, Nat.reduceAdd, Nat.reduceSub, Array.replicate_succ, Array.replicate_zero, List.push_toArray, List.append_toArray, List.nil_append, List.cons_append]
  gi_wp2
  generalize hW0 : (w.alloc (.cells #[.slice none 0 0] 22)) = W0
  have S0 : W0.heap.size = w.heap.size + 1 := by rw [← hW0]; simp
  have G0 := Lib.hid (show Gr w W0 by rw [← hW0]; exact (Gr.refl w).alloc _)
  have X4 := Lib.hid (show Boxed W0 w.heap.size 22 (.slice none 0 0) by rw [← hW0]; exact Boxed.new w 22 _)
  clear hW0
  refine rangeFunc_memP rfl (by omega) (gf := 57) (lb := #[.pointer (some ⟨bs, 0, none⟩)]) rfl trivial (enters_of Tryz.func57 (by kernel_rfl) rfl)
    (values1_seqP (K := fun k => k < W0.heap.size ∧ ¬ k = w.heap.size) _ (by omega) bs n c av X W0 hn (G0.out.cell HB.out) (HR.out.gr G0.out) (fun p ep h0 => by
      obtain ⟨b, o, e, hc⟩ := HR.out.at h0
      rw [ep] at e
      cases e
      have := World.block_lt_of_cell? w _ (hc 0 h0)
      simp only at this ⊢
      omega))
    Kc.trans (fun W l o o' _ h hc _ => Kc.putObj W l o o' h hc) (fun x W l o o' hx h hc => trivial) (Below.refl _ _) (fun _ => rfl)
    (Isq w.heap.size W0) (Isq.own w.heap.size W0)
    ⟨⟨_, X4.out, World.ownsRow_nil W0 _ _ _⟩, Wx.refl _ _⟩
    (fun x => { tmps := #[.slice none 0 0, .func (.func 57) #[] #[.pointer (some ⟨bs, 0, none⟩)], .pointer (some ⟨w.heap.size, 0, none⟩), undef, .slice none 0 0, .int .i64 x, .func (.func 57) #[] #[.pointer (some ⟨bs, 0, none⟩)], .int .i64 x, undef, undef, undef, undef, undef], defers := [] }) ?assign ?body ?done
  case assign =>
    intro l x W K hK
    unfold encI
    gi_wp2
    exact hK
  case body =>
    rintro l pre x W hpl ⟨⟨v, hv, hrow⟩, hX⟩ _
    have WX := Lib.hid hX
    have HV := Lib.hid hv
    have HO := Lib.hid hrow
    have c0 := hv.cell
    obtain ⟨i0, hi, hz0, hz1, hz2⟩ := info_int3
    have HI := Lib.hid hi
    have hz := Lib.hid (show W0.heap.size ≤ (W.alloc (.cells #[.int .i64 x] 3)).heap.size by have := Wx.size hX; simp; omega)
    clear hv hrow hX hi
    gi_wp2_with (gi_at_builtin; refine wpListIn_append_own _ rfl _ _ 22 rfl W0.heap.size 3 i0 (.int .i64 0) 1 8 Tryz.underlying22 HI.out hz0 hz1 hz2 rfl (by decide) _ _ _ rfl (HO.out.alloc _) ⟨W.heap.size, 0, none⟩ 1 1 [.int .i64 x] rfl rfl (fun j u hu => by
        cases j with
        | zero => simp at hu; subst hu; exact cell_new1 _ _ _
        | succ j => simp at hu) (by simp [Value.oneCell']) (by unfold maxLen; omega) (by omega) hz.out ?_; intro v1 w5 r1 r2 _; have hv5 : Boxed w5 w.heap.size 22 v := (HV.out.alloc _).kept r2 (HV.out.not_row (by decide) HO.out); have RD := Lib.hid (fun W' hW' => seq_round WX.out HV.out HO.out r1 r2 (W' := W') hW'); obtain ⟨gq, capq, rfl⟩ := ownsRow_pat r1; have c5 := hv5.cell; have f5 := hv5.frozen; clear r1 r2 hv5)
    exact RD.out _ (Gr.refl _)
  case done =>
    rintro D xs W hD hxs ⟨⟨v, hv, hrow⟩, hX⟩ hK
    rw [hxs, ints_lsI, lsI_len] at hrow
    have c4 := hv.cell
    have GW := Lib.hid (hX.gr G0.out (fun k hk => by omega))
    have HO := Lib.hid hrow
    have e1 := hK
    have HK := Lib.hid hK
    clear hv hrow hX hxs hK
    gi_wp2
    refine ⟨by simp, .inl ⟨_, _, rfl, run_takeDeferred e1, ?_⟩⟩
    have gp := grownBy_putObj' W D (.deferred none)
    refine ⟨v, by simp [results, Tryz.f74, go_sem], v, rfl, ?_, GW.out.grown gp (fun k er => by cases er; omega)⟩
    have hr := HO.out.kept gp (by
      rcases HO.out.2 with ⟨rfl, _⟩ | ⟨g, cap, cur, rfl, _, hgb, _⟩
      · exact .inl rfl
      · refine .inr fun e' => ?_
        obtain rfl : D = g := by simpa [Value.ownBlock] using e'.symm
        rw [HK.out] at hgb; cases hgb)
    exact ownsRow_low hr (by omega)

end Go.Proofs.YtohcnicadbpbbaaGreatDoor

namespace Go.Firn
open Go.RowKit

/-- The slice at a, of n slices of ints, reads as r 0, r 1, ..: how many ints, and which. -/
def RdT (w : World) (a : Option Addr) (n : Nat) (r : Nat → Nat × (Nat → Int)) : Prop :=
  n = 0 ∨ ∃ b o, a = some ⟨b, o, none⟩ ∧ ∀ i, i < n → ∃ ai ci, w.cell? ⟨b, o + i, none⟩ = some (.slice ai (r i).1 ci) ∧ (r i).1 ≤ ci ∧ ci ≤ maxLen ∧ RdI w ai (r i).1 (r i).2
theorem RdT.gr {w w' : World} {a : Option Addr} {n : Nat} {r : Nat → Nat × (Nat → Int)} (h : RdT w a n r) (g : Gr w w') : RdT w' a n r := by
  rcases h with h | ⟨b, o, ha, hc⟩
  · exact .inl h
  · refine .inr ⟨b, o, ha, fun i hi => ?_⟩
    obtain ⟨ai, ci, h1, h2, h3, h4⟩ := hc i hi
    exact ⟨ai, ci, g.cell h1, h2, h3, h4.gr g⟩
theorem RdT.at {w : World} {a : Option Addr} {n : Nat} {r : Nat → Nat × (Nat → Int)} (h : RdT w a n r) {k : Nat} (hk : k < n) :
    ∃ b o ai ci, a = some ⟨b, o, none⟩ ∧ w.cell? ⟨b, o + k, none⟩ = some (.slice ai (r k).1 ci) ∧ (r k).1 ≤ ci ∧ ci ≤ maxLen ∧ RdI w ai (r k).1 (r k).2 := by
  rcases h with h | ⟨b, o, ha, hc⟩
  · omega
  · obtain ⟨ai, ci, h1, h2, h3, h4⟩ := hc k hk
    exact ⟨b, o, ai, ci, ha, h1, h2, h3, h4⟩

/-- A list of lists, read by index. -/
def tr (f : List Nat → Nat → Int) (tb : List (List Nat)) (i : Nat) : Nat × (Nat → Int) := ((tb.getD i []).length, f (tb.getD i []))

/-- What lies in a row of the call's own: a slice that holds l, in another block than v's. -/
def Holds (base : Nat) (w : World) (v : Value) (f : List Nat → Nat → Int) (x : Value) (l : List Nat) : Prop :=
  ∃ a c, x = .slice a l.length c ∧ l.length ≤ c ∧ c ≤ maxLen ∧ RdI w a l.length (f l) ∧ (l.length = 0 ∨ ∃ b o, a = some ⟨b, o, none⟩ ∧ b < w.heap.size ∧ some b ≠ v.ownBlock ∧ base ≤ b)
/-- A table of the call's own. -/
def OwnT (w0 : World) (base : Nat) (f : List Nat → Nat → Int) (w : World) (v : Value) (tb : List (List Nat)) : Prop :=
  (Gr w0 w ∧ w0.heap.size ≤ base ∧ base ≤ w.heap.size) ∧ ∃ xs : List Value, w.ownsRow base 22 1 v tb.length xs ∧ ∀ i, i < tb.length → ∃ x, xs[i]? = some x ∧ Holds base w v f x (tb.getD i [])

theorem Holds.gr {base : Nat} {w w' : World} {v x : Value} {f : List Nat → Nat → Int} {l : List Nat} (h : Holds base w v f x l) (g : Gr w w') : Holds base w' v f x l := by
  obtain ⟨a, c, h1, h2, h3, h4, h5⟩ := h
  refine ⟨a, c, h1, h2, h3, h4.gr g, ?_⟩
  rcases h5 with h5 | ⟨b, o, k1, k2, k3⟩
  · exact .inl h5
  · exact .inr ⟨b, o, k1, Nat.lt_of_lt_of_le k2 g.size, k3⟩
theorem OwnT.nil' {w0 w : World} {base : Nat} (g : Gr w0 w) (h1 : w0.heap.size ≤ base) (h2 : base ≤ w.heap.size) (f : List Nat → Nat → Int) : OwnT w0 base f w (.slice none 0 0) [] := ⟨⟨g, h1, h2⟩, [], World.ownsRow_nil w _ _ _, fun i hi => by simp at hi⟩
theorem OwnT.gr {w0 w w' : World} {base : Nat} {f : List Nat → Nat → Int} {v : Value} {tb : List (List Nat)} (h : OwnT w0 base f w v tb) (g : Gr w w') : OwnT w0 base f w' v tb := by
  obtain ⟨h0, xs, h1, h2⟩ := h
  refine ⟨⟨h0.1.trans g, h0.2.1, Nat.le_trans h0.2.2 g.size⟩, xs, h1.kept (row := none) ⟨g.os, g.tape, g.output, Gr.size g, fun k hk _ => Below.block g k hk⟩ (by cases v.ownBlock <;> simp), fun i hi => ?_⟩
  obtain ⟨x, hx, hh⟩ := h2 i hi
  exact ⟨x, hx, hh.gr g⟩
theorem OwnT.lt {w0 w : World} {base : Nat} {f : List Nat → Nat → Int} {v : Value} {tb : List (List Nat)} (h : OwnT w0 base f w v tb) {b : Nat} (hb : v.ownBlock = some b) : b < w.heap.size := by
  obtain ⟨_, xs, h1, _⟩ := h
  exact (h1.lt b hb).2
theorem OwnT.rd {w0 w : World} {base : Nat} {f : List Nat → Nat → Int} {v : Value} {tb : List (List Nat)} (h : OwnT w0 base f w v tb) : ∃ a c, v = .slice a tb.length c ∧ tb.length ≤ c ∧ c ≤ maxLen ∧ RdT w a tb.length (tr f tb) := by
  obtain ⟨h0, xs, h1, h2⟩ := h
  have h1' := h1
  obtain ⟨hl, hv⟩ := h1'
  rcases hv with ⟨rfl, hz⟩ | ⟨g, cap, cur, rfl, hb, hg, hnc, hcm, hcs, htake⟩
  · rw [hz]; exact ⟨none, 0, rfl, Nat.le_refl _, by unfold maxLen; omega, .inl rfl⟩
  · refine ⟨_, _, rfl, hnc, hcm, .inr ⟨g, 0, rfl, fun i hi => ?_⟩⟩
    obtain ⟨x, hx, ai, ci, rfl, k1, k2, k3, _⟩ := h2 i hi
    have c0 := h1.cells (g := g) rfl _ _ hx
    rw [add_flat rfl] at c0
    exact ⟨ai, ci, c0, k1, k2, k3⟩

theorem info_slice {P : Program} {e : TypeId} (h : (P.info? e).map (fun i => (i.zero, i.size, i.bytes)) = some (some (.slice none 0 0), 1, 24)) :
    ∃ i, P.info? e = some i ∧ i.zero = some (.slice none 0 0) ∧ i.size = 1 ∧ i.bytes = 24 := by
  cases hi : P.info? e with
  | none => rw [hi] at h; cases h
  | some i => rw [hi] at h; simp at h; exact ⟨i, rfl, h.1, h.2.1, h.2.2⟩

/-- append(v, l): the table with one list more. The list lies in a block that came behind the table. -/
theorem wpList_app_list {P : Program} {ops : Array Oper} {rest : List Oper} {o : Oper} {a : Act} {Q : Exit → Act → World → Prop} (hgd : o.guard = none) (s x : Operand) (t : TypeId)
    (ho : o.op = .call { callee := .builtin .append, args := #[s, x], argTypes := #[t, t] })
    (ht : P.underlying t = some (.slice 22)) (hinfo : (P.info? 22).map (fun i => (i.zero, i.size, i.bytes)) = some (some (.slice none 0 0), 1, 24))
    {w0 w : World} {base : Nat} (f : List Nat → Nat → Int) (v : Value) (tb : List (List Nat)) (hs : a.eval s = v) (hown : OwnT w0 base f w v tb)
    (g : Nat) (y : Value) (l : List Nat) (hx : a.eval x = .slice (some ⟨g, 0, none⟩) 1 1) (hg : w.cell? ⟨g, 0, none⟩ = some y) (hy : Holds base w v f y l) (hk : tb.length < 1000000)
    (h : ∀ v' w', OwnT w0 base f w' v' (tb ++ [l]) → w.grownBy w' v.ownBlock → wpList P ops Q rest (a.put o.dst v') w') : wpList P ops Q (o :: rest) a w := by
  obtain ⟨h0, xs, h1, h2⟩ := hown
  obtain ⟨i0, hi, hz0, hz1, hz2⟩ := info_slice hinfo
  have hone : y.oneCell' = true := by obtain ⟨a', c', rfl, _⟩ := hy; rfl
  refine wpList_append_own_at w hgd s x t ho base 22 i0 (.slice none 0 0) 1 24 ht hi hz0 hz1 hz2 rfl (by decide) v tb.length xs hs h1 ⟨g, 0, none⟩ 1 1 [y] hx rfl ?_ ?_ ?_ ?_ h0.2.2 ?_
  · intro j u hu
    cases j with
    | zero => simp at hu; subst hu; exact hg
    | succ j => simp at hu
  · intro u hu; simp at hu; subst hu; exact hone
  · unfold maxLen; omega
  · omega
  · intro v' w' k1 k2 _ k4
    refine h v' w' ⟨⟨h0.1.grown k2 fun k hk => Nat.le_trans h0.2.1 (h1.lt k hk).1, h0.2.1, Nat.le_trans h0.2.2 k2.size⟩, xs ++ [y], by rw [List.length_append]; exact k1, fun i hi => ?_⟩ k2
    have hxl : xs.length = tb.length := by have := h1.1; omega
    have keep : ∀ z l', Holds base w v f z l' → Holds base w' v' f z l' := by
      rintro z l' ⟨a', c', e1, e2, e3, e4, e5⟩
      refine ⟨a', c', e1, e2, e3, ?_, ?_⟩
      · rcases e5 with e5 | ⟨b, o, rfl, e6, e7, e10⟩
        · exact .inl e5
        · rcases e4 with e4 | ⟨b', o', e8, e9⟩
          · exact .inl e4
          · cases e8
            exact .inr ⟨b, o, rfl, fun j hj => k2.cell (e9 j hj) e7⟩
      · rcases e5 with e5 | ⟨b, o, rfl, e6, e7, e10⟩
        · exact .inl e5
        · refine .inr ⟨b, o, rfl, Nat.lt_of_lt_of_le e6 k2.size, ?_, e10⟩
          rcases k4 with k4 | k4
          · rw [k4]; exact e7
          · rw [k4]; intro e; cases e; omega
    rw [List.length_append] at hi
    by_cases e : i < tb.length
    · obtain ⟨z, hz, hh⟩ := h2 i e
      refine ⟨z, by rw [List.getElem?_append_left (by omega)]; exact hz, ?_⟩
      have : (tb ++ [l]).getD i [] = tb.getD i [] := by rw [List.getD, List.getD, List.getElem?_append_left e]
      rw [this]
      exact keep _ _ hh
    · have ei : i = tb.length := by simp at hi; omega
      subst ei
      refine ⟨y, by rw [List.getElem?_append_right (by omega), hxl]; simp, ?_⟩
      have : (tb ++ [l]).getD tb.length [] = l := by rw [List.getD, List.getElem?_append_right (by omega)]; simp
      rw [this]
      exact keep _ _ hy

theorem OwnT.ne {w0 w : World} {base : Nat} {f : List Nat → Nat → Int} {v : Value} {tb : List (List Nat)} (h : OwnT w0 base f w v tb) {b : Nat} (hb : b < base) : some b ≠ v.ownBlock := fun e => by
  obtain ⟨_, xs, h1, _⟩ := h
  have := (h1.lt b e.symm).1
  omega
/-- A cell is written in a block between the start and the table's. -/
theorem OwnT.set {w0 w : World} {base : Nat} {f : List Nat → Nat → Int} {v : Value} {tb : List (List Nat)} (h : OwnT w0 base f w v tb) {b j : Nat} (h1 : w0.heap.size ≤ b) (h2 : b < base) (u : Value) : OwnT w0 base f (w.setCell ⟨b, j, none⟩ u) v tb := by
  obtain ⟨h0, xs, k1, k2⟩ := h
  refine ⟨⟨h0.1.setAt h1 u, h0.2.1, by simpa using h0.2.2⟩, xs, ownsRow_setCell_other k1 (fun e => by have := (k1.lt b e).1; omega) u, fun i hi => ?_⟩
  obtain ⟨x, hx, a, c, rfl, e2, e3, e4, e5⟩ := k2 i hi
  refine ⟨_, hx, a, c, rfl, e2, e3, ?_, ?_⟩
  · rcases e5 with e5 | ⟨b', o, rfl, e6, e7, e8⟩
    · exact .inl e5
    · rcases e4 with e4 | ⟨b2, o2, e9, e10⟩
      · exact .inl e4
      · cases e9
        refine .inr ⟨b', o, rfl, fun j hj => ?_⟩
        rw [World.cell?_setCell_other _ _ _ _ (fun e => by have := congrArg Addr.block e; simp at this; omega)]
        exact e10 j hj
  · rcases e5 with e5 | ⟨b', o, rfl, e6, e7, e8⟩
    · exact .inl e5
    · exact .inr ⟨b', o, rfl, by simpa using e6, e7, e8⟩

end Go.Firn
