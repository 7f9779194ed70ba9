/- A range over a function whose rounds are handed what lies in memory: the body may read it (Hx), and never leaves the loop. A range over an iterator that writes a variable of its own between two rounds (as strings.SplitSeq's does): the caller's invariant abides that (Wb); a round may leave. A region inside a fence, that of a round too, that draws its order: what yields its value in every world that meets a condition is taken first; behind all else the condition is shown anew. Contracts of the library: SplitSeq and its iterator, Atoi; what boxes keep. -/
import Derived.RangeFuncFrom
import Derived.RangeFuncBound
import Derived.RangeFuncCalls
import Derived.RangeFuncLeaves
import Derived.Shelf.Abstract
import Derived.Shelf.RegionOpen
import Derived.WalkKit
import Derived.OwnWalkIn
import Derived.TacticsInMore
import Derived.LoopNIn
import Derived.LoopIn
import Derived.OrdersHeld
import Derived.OrdersIn
import Derived.Test.YtdlbgelidcfmiaaGreatDoorTT
import Derived.Shelf.Strings.Search2
import Derived.Shelf.Strings.Search3
namespace Go.Firn
open Go.RowKit

/-- The cells of the blocks of K lie as they lay. -/
def Kc (K : Nat → Prop) (W W' : World) : Prop := ∀ (p : Addr) (v : Value), K p.block → W.cell? p = some v → W'.cell? p = some v
theorem Kc.trans {K : Nat → Prop} {A B C : World} (h : Kc K A B) (k : Kc K B C) : Kc K A C := fun p v hp e => k p v hp (h p v hp e)
theorem Kc.alloc {K : Nat → Prop} (W : World) (o : Obj) : Kc K W (W.alloc o) := fun _ _ _ e => (World.cell?_alloc_lt _ _ _ (World.block_lt_of_cell? W _ e)).trans e
theorem cell_putObj {W : World} {l : Nat} {o o' : Obj} (h : W.heap[l]? = some o) (hc : o.isCells = false) {p : Addr} {v : Value} (e : W.cell? p = some v) : (W.putObj l o').cell? p = some v := by
  exact cell_kept e (grownBy_putObj' W l o') (fun r er => by cases er; exact ⟨o, h, hc⟩)
theorem Kc.putObj {K : Nat → Prop} (W : World) (l : Nat) (o o' : Obj) (h : W.heap[l]? = some o) (hc : o.isCells = false) : Kc K W (W.putObj l o') := fun _ _ _ e => cell_putObj h hc e

variable {F : Fence} {n : Nat} {P : Program}

/-- An iterator that hands over xs, each with what it says of memory. -/
def SeqM {α : Type} (F : Fence) (n : Nat) (P : Program) (g : Nat) (lb : Array Value) (encs : α → Array Value) (Hx : α → World → Prop) (Kp : World → World → Prop) (S : List α → Prop) (w : World) : Prop :=
  ∀ (l : Nat) (J : List α → World → Prop) (W : World), Below w.heap.size w W → AbidesFrom W.heap.size J →
    (∀ pre x W1, J pre W1 → Hx x W1 → YieldAt F (n - 1) P l (encs x) W1 fun e W' => e = .returned (.bool true) ∧ J (pre ++ [x]) W' ∧ Kp W1 W') →
    J [] W →
    CallsIn F n P g (#[.func (.yield l) #[] #[]] ++ lb) W fun e W' => (∃ v, e = .returned v) ∧ ∃ xs, S xs ∧ J xs W'

theorem rangeFunc_mem {α : Type} {g : Operand} {ps : Array Tmp} {assign body : Code} {Q : Exit → Act → World → Prop} {a : Act} {w : World}
    (hro : F.round = none) (h1 : 1 ≤ n) {gf : Nat} {lb : Array Value} (hg : a.eval g = .func (.func gf) #[] lb) (hFg : F.fn gf) (eg : ∀ args w, (callFunc gf args).run P w = .ok (.enter gf args) w)
    {encs : α → Array Value} {Hx : α → World → Prop} {Kp : World → World → Prop} {S : List α → Prop} {w0 : World} (hseq : SeqM F (n - 1) P gf lb encs Hx Kp S w0)
    (hKt : ∀ {A B C : World}, Kp A B → Kp B C → Kp A C) (hKb : ∀ (W : World) (l : Nat) (o o' : Obj), w.heap.size ≤ l → W.heap[l]? = some o → o.isCells = false → o.isWalk = false → Kp W (W.putObj l o'))
    (hHb : ∀ (x : α) (W : World) (l : Nat) (o o' : Obj), Hx x W → W.heap[l]? = some o → o.isCells = false → Hx x (W.putObj l o'))
    (hb0 : Below w0.heap.size w0 w) (hps : ∀ x, (encs x).size = ps.size)
    (I : List α → World → Prop) (hI : OwnFrom w.heap.size I) (h0 : I [] w) (a₁ : α → Act)
    (hassign : ∀ (l : Nat) (x : α) (W : World) (K : Act → World → Prop), K (a₁ x) W →
      assign.wpIn (F.inRound l) (n - 1 - 1) P (Exit.then K (fun _ _ _ => False)) { tmps := (ps.zip (encs x)).foldl (fun t (p, v) => t.setIfInBounds p v) a.tmps, defers := [] } W)
    (hbody : ∀ (l : Nat) (pre : List α) (x : α) (W : World), I pre W → Hx x W → body.wpIn (F.inRound l) (n - 1 - 1) P (ownPostK Kp I (fun _ _ _ => False) (pre ++ [x]) W) (a₁ x) W)
    (hdone : ∀ (D : Nat) (xs : List α) (W : World), w.heap.size ≤ D → S xs → I xs W → W.heap[D]? = some (.deferred (some [])) → Q .normal { a with defers := { target := .collected D, args := #[] } :: a.defers } W) :
    (Code.rangeFunc g ps assign body).wpIn F n P Q a w := by
  refine wpIn_rangeFunc ?_
  intro fn hfn
  rw [hro]
  obtain ⟨rec, hrec⟩ : ∃ rec : LoopState → Option Code → Loop, rec = fun st pe => { state := st, pending := pe, fn, tmps := a.tmps, params := ps, assign, body, defers := w.heap.size } := ⟨_, rfl⟩
  obtain ⟨W1, hW1⟩ : ∃ W1, (w.alloc (.deferred (some []))).alloc (.loop (rec .ready none)) = W1 := ⟨_, rfl⟩
  have loop0 : W1.heap[w.heap.size + 1]? = some (.loop (rec .ready none)) := by
    rw [← hW1]
    have := World.alloc_heap_new (w.alloc (.deferred (some []))) (.loop (rec .ready none))
    rwa [World.size_alloc] at this
  have defs0 : W1.heap[w.heap.size]? = some (.deferred (some [])) := by
    rw [← hW1]
    exact (Below.heap_alloc _ _ _ (by simp)).trans (World.alloc_heap_new w _)
  have inv0 : I [] W1 := by rw [← hW1]; exact hI.alloc _ (hI.alloc _ h0)
  have bel0 : Below w0.heap.size w0 W1 := by
    rw [← hW1]
    exact hb0.trans ((((Below.refl _ w).alloc (Nat.le_refl _) _).alloc (by simp) _).mono hb0.size)
  refine ⟨w.heap.size + 1, [{ target := .collected w.heap.size, args := #[] }], W1, { target := .fn (.func gf) lb, args := #[.func (.yield (w.heap.size + 1)) #[] #[]] }, W1, gf,
    #[.func (.yield (w.heap.size + 1)) #[] #[]] ++ lb, W1, ?_, ?_, ?_, ?_, fun _ => h1, ?_⟩
  · rw [← hW1, hrec]; exact run_enterLoop_outer _ _ _ _ _
  · simp only [resolve, hg]
    simp [go_sem]
  · intro f' hf'; simp [Target.leads] at hf'; subst hf'; exact hFg
  · simp [invoke, go_sem, eg]
  · have turn : ∀ {A B : World} {row : Option Nat}, (∀ r, row = some r → W1.heap.size ≤ r ∧ ∃ o : Obj, A.heap[r]? = some o ∧ o.isWalk = true) → (∀ r, row = some r → w.heap.size ≤ r ∧ ∃ o : Obj, A.heap[r]? = some o ∧ o.isCells = false) :=
      fun hr r e => by obtain ⟨hB, o, ho, hw⟩ := hr r e; exact ⟨by rw [← hW1] at hB; simp at hB; omega, o, ho, Obj.not_cells_of_walk hw⟩
    refine (hseq (w.heap.size + 1)
      (fun pre W => I pre W ∧ W.heap[w.heap.size + 1]? = some (.loop (rec .ready none)) ∧ W.heap[w.heap.size]? = some (.deferred (some [])))
      W1 bel0
      (fun s A B row hs hg' hr => ⟨hI s A B row hs.1 hg' (turn (B := B) hr), (grownBy_keeps hg' (fun r e => (hr r e).2) hs.2.1 rfl).trans hs.2.1, (grownBy_keeps hg' (fun r e => (hr r e).2) hs.2.2 rfl).trans hs.2.2⟩)
      ?_ ⟨inv0, loop0, defs0⟩).mono ?_
    · rintro pre x W ⟨hi, hl, hk⟩ hx
      have hlt : w.heap.size + 1 < W.heap.size := (Array.getElem?_eq_some_iff.1 hl).1
      have hy := run_yield (P := P) (args := encs x) hl (by rw [hrec]; exact hps x)
      rw [hrec] at hy
      refine ⟨fn, _, assign, body, hy, roundIn_of_wpIn hfn (hassign _ x W _ ⟨_, run_beginRound hl (by rw [hrec]), ?_⟩)⟩
      have hl2 : (W.putObj (w.heap.size + 1) (.loop { rec .ready none with state := .busy })).heap[w.heap.size + 1]? = some (.loop { rec .ready none with state := .busy }) := World.putObj_heap_same hlt
      have hk2 : (W.putObj (w.heap.size + 1) (.loop { rec .ready none with state := .busy })).heap[w.heap.size]? = some (.deferred (some [])) := (World.putObj_heap_other (by omega)).trans hk
      have hw2 : Kp W (W.putObj (w.heap.size + 1) (.loop { rec .ready none with state := .busy })) := hKb _ _ _ _ (by omega) hl rfl rfl
      refine wpIn_mono (hbody _ pre x _ (hI.putObj _ hi (by omega) hl rfl) (hHb _ _ _ _ _ hx hl rfl)) ?_
      rintro e a3 W3 hp
      cases e with
      | normal =>
        obtain ⟨hk3, hkp3, hi3⟩ := hp
        have hl3 := hk3.same _ _ hl2 rfl
        have er := run_endRound (P := P) none hl3
        rw [hrec] at er hl3
        refine ⟨_, _, er, rfl, ⟨hI.putObj _ hi3 (by omega) hl3 rfl, ?_, (World.putObj_heap_other (by omega)).trans (hk3.same _ _ hk2 rfl)⟩, hKt (hKt hw2 hkp3) (hKb _ _ _ _ (by omega) hl3 rfl rfl)⟩
        rw [hrec]
        exact World.putObj_heap_same (Array.getElem?_eq_some_iff.1 hl3).1
      | ret => exact hp.2.elim
      | exit id => exact hp.2.elim
      | goto t => exact hp.2.elim
      | panic ch => exact hp.elim
      | outgrown => exact hp.elim
    · rintro e W2 ⟨⟨v, rfl⟩, xs, hS, hi, hl, hk⟩
      exact ⟨none, _, by have := run_endLoop (P := P) hl (by rw [hrec]; simp); rw [hrec] at this; exact this, hdone _ xs _ (Nat.le_refl _) hS (hI.putObj _ hi (by omega) hl rfl) ((World.putObj_heap_other (by omega)).trans hk)⟩

end Go.Firn

namespace Go.Firn
open Go.RowKit

variable {F : Fence} {n : Nat} {P : Program}

/-- An iterator that hands over xs, and between two rounds turns the world by Wb. -/
def SeqW {α : Type} (F : Fence) (n : Nat) (P : Program) (g : Nat) (lb : Array Value) (encs : α → Array Value) (Kp Wb : World → World → Prop) (Px : α → Prop) (S Sp : List α → Prop) (N : Nat) (w : World) : Prop :=
  ∀ (l : Nat) (J Jx : List α → World → Prop) (W : World), Below w.heap.size w W → AbidesFrom W.heap.size J → (∀ pre A B, J pre A → Wb A B → J pre B) → AbidesFrom W.heap.size Jx →
    (∀ pre x W1, J pre W1 → Px x → pre.length < N → YieldAt F (n - 1) P l (encs x) W1 fun e W' =>
      (e = .returned (.bool true) ∧ J (pre ++ [x]) W' ∧ Kp W1 W') ∨ (e = .returned (.bool false) ∧ Jx (pre ++ [x]) W')) →
    J [] W →
    CallsIn F n P g (#[.func (.yield l) #[] #[]] ++ lb) W fun e W' => (∃ v, e = .returned v) ∧ ((∃ xs, S xs ∧ J xs W') ∨ (∃ pre, Sp pre ∧ Jx pre W'))

theorem rangeFunc_wr {α : Type} {g : Operand} {ps : Array Tmp} {assign body : Code} {Q : Exit → Act → World → Prop} {a : Act} {w : World}
    (hro : F.round = none) (h1 : 1 ≤ n) {gf : Nat} {lb : Array Value} (hg : a.eval g = .func (.func gf) #[] lb) (hFg : F.fn gf) (eg : ∀ args w, (callFunc gf args).run P w = .ok (.enter gf args) w)
    {encs : α → Array Value} {Kp Wb : World → World → Prop} {Px : α → Prop} {S Sp : List α → Prop} {N : Nat} {w0 : World} (hseq : SeqW F (n - 1) P gf lb encs Kp Wb Px S Sp N w0)
    (hKt : ∀ {A B C : World}, Kp A B → Kp B C → Kp A C) (hKb : ∀ (W : World) (l : Nat) (o o' : Obj), w.heap.size ≤ l → W.heap[l]? = some o → o.isCells = false → o.isWalk = false → Kp W (W.putObj l o'))
    (hWb : ∀ A B, Wb A B → ∀ (k : Nat) (o : Obj), A.heap[k]? = some o → o.isCells = false → B.heap[k]? = some o)
    (hb0 : Below w0.heap.size w0 w) (hps : ∀ x, (encs x).size = ps.size)
    (I : List α → World → Prop) (Ix : Code → List α → World → Prop) (hI : OwnFrom w.heap.size I) (hIW : ∀ pre A B, I pre A → Wb A B → I pre B) (hIx : ∀ c, OwnFrom w.heap.size (Ix c)) (h0 : I [] w) (a₁ : α → Act)
    (hassign : ∀ (l : Nat) (x : α) (W : World) (K : Act → World → Prop), K (a₁ x) W →
      assign.wpIn (F.inRound l) (n - 1 - 1) P (Exit.then K (fun _ _ _ => False)) { tmps := (ps.zip (encs x)).foldl (fun t (p, v) => t.setIfInBounds p v) a.tmps, defers := [] } W)
    (hbody : ∀ (l : Nat) (pre : List α) (x : α) (W : World), I pre W → Px x → pre.length < N → body.wpIn (F.inRound l) (n - 1 - 1) P (ownPostK Kp I Ix (pre ++ [x]) W) (a₁ x) W)
    (hdone : ∀ (D : Nat) (xs : List α) (W : World), w.heap.size ≤ D → S xs → I xs W → W.heap[D]? = some (.deferred (some [])) → Q .normal { a with defers := { target := .collected D, args := #[] } :: a.defers } W)
    (hstop : ∀ (D : Nat) (c : Code) (pre : List α) (W : World), w.heap.size ≤ D → Sp pre → Ix c pre W → W.heap[D]? = some (.deferred (some [])) → c.wpIn F n P Q { a with defers := { target := .collected D, args := #[] } :: a.defers } W) :
    (Code.rangeFunc g ps assign body).wpIn F n P Q a w := by
  refine wpIn_rangeFunc ?_
  intro fn hfn
  rw [hro]
  obtain ⟨rec, hrec⟩ : ∃ rec : LoopState → Option Code → Loop, rec = fun st pe => { state := st, pending := pe, fn, tmps := a.tmps, params := ps, assign, body, defers := w.heap.size } := ⟨_, rfl⟩
  obtain ⟨W1, hW1⟩ : ∃ W1, (w.alloc (.deferred (some []))).alloc (.loop (rec .ready none)) = W1 := ⟨_, rfl⟩
  have loop0 : W1.heap[w.heap.size + 1]? = some (.loop (rec .ready none)) := by
    rw [← hW1]
    have := World.alloc_heap_new (w.alloc (.deferred (some []))) (.loop (rec .ready none))
    rwa [World.size_alloc] at this
  have defs0 : W1.heap[w.heap.size]? = some (.deferred (some [])) := by
    rw [← hW1]
    exact (Below.heap_alloc _ _ _ (by simp)).trans (World.alloc_heap_new w _)
  have inv0 : I [] W1 := by rw [← hW1]; exact hI.alloc _ (hI.alloc _ h0)
  have bel0 : Below w0.heap.size w0 W1 := by
    rw [← hW1]
    exact hb0.trans ((((Below.refl _ w).alloc (Nat.le_refl _) _).alloc (by simp) _).mono hb0.size)
  refine ⟨w.heap.size + 1, [{ target := .collected w.heap.size, args := #[] }], W1, { target := .fn (.func gf) lb, args := #[.func (.yield (w.heap.size + 1)) #[] #[]] }, W1, gf,
    #[.func (.yield (w.heap.size + 1)) #[] #[]] ++ lb, W1, ?_, ?_, ?_, ?_, fun _ => h1, ?_⟩
  · rw [← hW1, hrec]; exact run_enterLoop_outer _ _ _ _ _
  · simp only [resolve, hg]
    simp [go_sem]
  · intro f' hf'; simp [Target.leads] at hf'; subst hf'; exact hFg
  · simp [invoke, go_sem, eg]
  · have turn : ∀ {A B : World} {row : Option Nat}, (∀ r, row = some r → W1.heap.size ≤ r ∧ ∃ o : Obj, A.heap[r]? = some o ∧ o.isWalk = true) → (∀ r, row = some r → w.heap.size ≤ r ∧ ∃ o : Obj, A.heap[r]? = some o ∧ o.isCells = false) :=
      fun hr r e => by obtain ⟨hB, o, ho, hw⟩ := hr r e; exact ⟨by rw [← hW1] at hB; simp at hB; omega, o, ho, Obj.not_cells_of_walk hw⟩
    refine (hseq (w.heap.size + 1)
      (fun pre W => I pre W ∧ W.heap[w.heap.size + 1]? = some (.loop (rec .ready none)) ∧ W.heap[w.heap.size]? = some (.deferred (some [])))
      (fun pre W => ∃ c, Ix c pre W ∧ W.heap[w.heap.size + 1]? = some (.loop (rec .done (some c))) ∧ W.heap[w.heap.size]? = some (.deferred (some [])))
      W1 bel0
      (fun s A B row hs hg' hr => ⟨hI s A B row hs.1 hg' (turn (B := B) hr), (grownBy_keeps hg' (fun r e => (hr r e).2) hs.2.1 rfl).trans hs.2.1, (grownBy_keeps hg' (fun r e => (hr r e).2) hs.2.2 rfl).trans hs.2.2⟩)
      (fun pre A B hs hw => ⟨hIW pre A B hs.1 hw, hWb A B hw _ _ hs.2.1 rfl, hWb A B hw _ _ hs.2.2 rfl⟩)
      (fun s A B row hs hg' hr => by
        obtain ⟨c, hc, hl, hk⟩ := hs
        exact ⟨c, hIx c s A B row hc hg' (turn (B := B) hr), (grownBy_keeps hg' (fun r e => (hr r e).2) hl rfl).trans hl, (grownBy_keeps hg' (fun r e => (hr r e).2) hk rfl).trans hk⟩)
      ?_ ⟨inv0, loop0, defs0⟩).mono ?_
    · rintro pre x W ⟨hi, hl, hk⟩ hpx hlen
      have hlt : w.heap.size + 1 < W.heap.size := (Array.getElem?_eq_some_iff.1 hl).1
      have hy := run_yield (P := P) (args := encs x) hl (by rw [hrec]; exact hps x)
      rw [hrec] at hy
      refine ⟨fn, _, assign, body, hy, roundIn_of_wpIn hfn (hassign _ x W _ ⟨_, run_beginRound hl (by rw [hrec]), ?_⟩)⟩
      have hl2 : (W.putObj (w.heap.size + 1) (.loop { rec .ready none with state := .busy })).heap[w.heap.size + 1]? = some (.loop { rec .ready none with state := .busy }) := World.putObj_heap_same hlt
      have hk2 : (W.putObj (w.heap.size + 1) (.loop { rec .ready none with state := .busy })).heap[w.heap.size]? = some (.deferred (some [])) := (World.putObj_heap_other (by omega)).trans hk
      have hw2 : Kp W (W.putObj (w.heap.size + 1) (.loop { rec .ready none with state := .busy })) := hKb _ _ _ _ (by omega) hl rfl rfl
      refine wpIn_mono (hbody _ pre x _ (hI.putObj _ hi (by omega) hl rfl) hpx hlen) ?_
      have fin : ∀ (jump : Option Code) (W3 : World), KeepsOthers (W.putObj (w.heap.size + 1) (.loop { rec .ready none with state := .busy })) W3 →
          (Instr.endRound (w.heap.size + 1) jump).run P W3 = .ok (.bool jump.isNone) (W3.putObj (w.heap.size + 1) (.loop (rec (if jump.isNone then .ready else .done) jump))) ∧
          W3.heap[w.heap.size + 1]? = some (.loop { rec .ready none with state := .busy }) ∧
          (W3.putObj (w.heap.size + 1) (.loop (rec (if jump.isNone then .ready else .done) jump))).heap[w.heap.size + 1]? = some (.loop (rec (if jump.isNone then .ready else .done) jump)) ∧
          (W3.putObj (w.heap.size + 1) (.loop (rec (if jump.isNone then .ready else .done) jump))).heap[w.heap.size]? = some (.deferred (some [])) := fun jump W3 hk3 => by
        have hl3 := hk3.same _ _ hl2 rfl
        have := run_endRound (P := P) jump hl3
        rw [hrec] at this ⊢
        exact ⟨this, by rw [hrec] at hl3; exact hl3, World.putObj_heap_same (Array.getElem?_eq_some_iff.1 hl3).1, (World.putObj_heap_other (by omega)).trans (hk3.same _ _ hk2 rfl)⟩
      rintro e a3 W3 hp
      cases e with
      | normal =>
        obtain ⟨hk3, hkp3, hi3⟩ := hp
        obtain ⟨hr, hl3, hl4, hk4⟩ := fin none W3 hk3
        exact ⟨_, _, hr, .inl ⟨rfl, ⟨hI.putObj _ hi3 (by omega) hl3 rfl, hl4, hk4⟩, hKt (hKt hw2 hkp3) (hKb _ _ _ _ (by omega) hl3 rfl rfl)⟩⟩
      | ret =>
        obtain ⟨hk3, hi3⟩ := hp
        obtain ⟨hr, hl3, hl4, hk4⟩ := fin (some .ret) W3 hk3
        exact ⟨_, _, hr, .inr ⟨rfl, .ret, (hIx _).putObj _ hi3 (by omega) hl3 rfl, hl4, hk4⟩⟩
      | exit id =>
        obtain ⟨hk3, hi3⟩ := hp
        obtain ⟨hr, hl3, hl4, hk4⟩ := fin (some (.exit id)) W3 hk3
        exact ⟨_, _, hr, .inr ⟨rfl, .exit id, (hIx _).putObj _ hi3 (by omega) hl3 rfl, hl4, hk4⟩⟩
      | goto t =>
        obtain ⟨hk3, hi3⟩ := hp
        obtain ⟨hr, hl3, hl4, hk4⟩ := fin (some (.goto t)) W3 hk3
        exact ⟨_, _, hr, .inr ⟨rfl, .goto t, (hIx _).putObj _ hi3 (by omega) hl3 rfl, hl4, hk4⟩⟩
      | panic ch => exact hp.elim
      | outgrown => exact hp.elim
    · rintro e W2 ⟨⟨v, rfl⟩, (⟨xs, hS, hi, hl, hk⟩ | ⟨pre, hSp, c, hi, hl, hk⟩)⟩
      · exact ⟨none, _, by have := run_endLoop (P := P) hl (by rw [hrec]; simp); rw [hrec] at this; exact this, hdone _ xs _ (Nat.le_refl _) hS (hI.putObj _ hi (by omega) hl rfl) ((World.putObj_heap_other (by omega)).trans hk)⟩
      · exact ⟨some c, _, by have := run_endLoop (P := P) hl (by rw [hrec]; simp); rw [hrec] at this; exact this, hstop _ c pre _ (Nat.le_refl _) hSp ((hIx c).putObj _ hi (by omega) hl rfl) ((World.putObj_heap_other (by omega)).trans hk)⟩

end Go.Firn

namespace Go.Firn
open Go

section
variable {F : Fence} {n : Nat} {P : Program} {ops : Array Oper} {Q : Exit → Act → World → Prop} {md : Region.Mode} {S : World → Prop}

def noDeferB (ops : Array Oper) : Bool := ops.all fun o => match o.op with | .defer _ => false | _ => true
theorem noDefer_spec (h : noDeferB ops = true) {j : Nat} {o : Oper} (ho : ops[j]? = some o) (c : _) : o.op ≠ .defer c := fun e => by
  have := Array.all_eq_true'.1 h o (Array.mem_of_getElem? ho)
  rw [e] at this
  cases this

/-- In state a, in every world that meets S, o leaves v in its temporary and does nothing else; it may be about to call what the fence lets. -/
def YieldsHIn (F : Fence) (P : Program) (ops : Array Oper) (S : World → Prop) (o : Oper) (v : Value) (a : Act) : Prop :=
  YieldsIf P ops S o v a ∧ ∀ w f, o.about P w a.eval = some f → F.fn f

theorem YieldsHIn.wpOpIn {i : Nat} {o : Oper} {v : Value} {a : Act} (hnd : ∀ c, o.op ≠ .defer c) (hi : ops[i]? = some o) (hy : YieldsHIn F P ops S o v a)
    {K : Act → World → Prop} {w : World} (hS : S w) (h : K (a.put o.dst v) w) : wpOpIn F n P ops Q i K a w := by
  unfold Go.wpOpIn
  simp only [hi]
  rcases hy.1 with ⟨hw, hv⟩ | ⟨hw, rfl⟩
  · simp only [hw, if_true, Oper.wpIn, Oper.semAt_plain F _ _ hnd, hv w hS, Oper.uponIn]; exact ⟨hy.2 w, h⟩
  · simp only [hw, Bool.false_eq_true, if_false]; exact ⟨hy.2 w, h⟩

theorem YieldsHIn.of_same {o : Oper} {v : Value} {a a' : Act} (hy : YieldsHIn F P ops S o v a) (he : execOp a'.eval o = execOp a.eval o)
    (hw : Region.wanted o (yielded ops a'.tmps) = Region.wanted o (yielded ops a.tmps)) (hb : ∀ w, o.about P w a'.eval = o.about P w a.eval) : YieldsHIn F P ops S o v a' :=
  ⟨hy.1.of_same he hw, fun w f hf => hy.2 w f (by rw [← hb w]; exact hf)⟩

theorem wpOpIn_putH {j : Nat} {oi oj : Oper} {v : Value} (hnd : ∀ c, oj.op ≠ .defer c) (hj : ops[j]? = some oj) (hap : oi.apart ops oj = true)
    (hsi : ∀ cs b, oi.op ≠ .select cs b) (hsj : ∀ cs b, oj.op ≠ .select cs b)
    (hQ : ∀ c a w, Q (.panic c) (a.put oi.dst v) w → Q (.panic c) a w) {K : Act → World → Prop} {a : Act} {w : World}
    (hy : YieldsHIn F P ops S oi v a) (h : wpOpIn F n P ops Q j K (a.put oi.dst v) w) :
    wpOpIn F n P ops Q j (fun a' w' => YieldsHIn F P ops S oi v a' ∧ K (a'.put oi.dst v) w') a w := by
  obtain ⟨h1, h2, h3⟩ := Oper.apart_spec hap
  have keep : ∀ (a : Act), YieldsHIn F P ops S oi v a → ∀ u, YieldsHIn F P ops S oi v (a.put oj.dst u) := fun a hy u =>
    hy.of_same (execOp_put oi hsi a oj.dst u h3) (wanted_put oi a oj.dst u h3) (fun w => about_put oi w a oj.dst u h3)
  have keepD : ∀ d, YieldsHIn F P ops S oi v { a with defers := d :: a.defers } := fun d => hy.of_same rfl rfl (fun _ => rfl)
  unfold wpOpIn at *
  simp only [hj] at *
  rw [wanted_put oj a oi.dst v h1, about_put oj w a oi.dst v h1] at h
  split
  · rename_i hw
    simp only [hw, if_true] at h
    unfold Oper.wpIn at *
    rw [about_put oj w a oi.dst v h1] at h
    refine ⟨h.1, ?_⟩
    have h := h.2
    rw [Oper.semAt_plain F _ _ hnd, execOp_put oj hsj a oi.dst v h1] at h
    rw [Oper.semAt_plain F _ _ hnd]
    generalize (execOp a.eval oj).run P w = r at *
    cases r with
    | ok x w' =>
      cases x <;> simp only [Oper.uponIn] at h ⊢
      case value u => exact ⟨keep a hy u, by rw [← Act.put_comm a v u h2]; exact h⟩
      case skip => exact ⟨keep a hy _, by rw [← Act.put_comm a v undef h2]; exact h⟩
      case defer d =>
        refine ⟨keep _ (keepD d) _, ?_⟩
        rw [← Act.put_comm _ v undef h2, ← Act.put_defers]
        exact h
      case enter f args =>
        refine ⟨h.1, CallsIn.mono h.2 fun e w'' he => ?_⟩
        cases e with
        | returned u => exact ⟨keep a hy u, by rw [← Act.put_comm a v u h2]; exact he⟩
        | panicked c => exact hQ _ _ _ he
        | outgrown => exact he
      case row row args => exact ⟨h.1, RowsIn.mono h.2 fun u w'' he => ⟨keep a hy u, by rw [← Act.put_comm a v u h2]; exact he⟩⟩
      case round l f tmps assign body =>
        refine ⟨h.1, RoundIn.mono h.2 fun e w'' he => ?_⟩
        cases e with
        | returned u => exact ⟨keep a hy u, by rw [← Act.put_comm a v u h2]; exact he⟩
        | panicked c => exact hQ _ _ _ he
        | outgrown => exact he
    | halt x w' =>
      cases x <;> simp only [Oper.uponIn] at h ⊢
      case panic u => exact hQ _ _ _ h
  · rename_i hw
    simp only [hw] at h
    exact ⟨h.1, keep a hy _, by rw [← Act.put_comm a v undef h2]; exact h.2⟩

/-- Whatever order is picked from here on, and S holds behind every operation that is carried out. -/
def wpAnyHIn (F : Fence) (n : Nat) (P : Program) (md : Region.Mode) (ops : Array Oper) (Q : Exit → Act → World → Prop) (S : World → Prop) : Nat → Array Bool → Act → World → Prop
  | 0, listed, a, w => Region.ready md ops listed = [] ∧ Q .normal a w
  | fuel + 1, listed, a, w =>
    (Region.ready md ops listed = [] → Q .normal a w) ∧
    ∀ i ∈ Region.ready md ops listed, wpOpIn F n P ops Q i (fun a' w' => S w' ∧ wpAnyHIn F n P md ops Q S fuel (listed.setIfInBounds i true) a' w') a w
theorem wpAnyIn_of_held : ∀ (fuel : Nat) (listed : Array Bool) (a : Act) (w : World), wpAnyHIn F n P md ops Q S fuel listed a w → wpAnyIn F n P md ops Q fuel listed a w
  | 0, _, _, _, h => h
  | fuel + 1, _, _, _, h => ⟨h.1, fun i hi => wpOpIn_mono (fun a' w' h' => wpAnyIn_of_held fuel _ a' w' h'.2) (h.2 i hi)⟩

theorem wpAnyHIn_first {i : Nat} {oi : Oper} {v : Value} (hnd : noDeferB ops = true) (hi : ops[i]? = some oi) (hsel : ∀ (j : Nat) (o : Oper) cs b, ops[j]? = some o → o.op ≠ .select cs b)
    (hQ : ∀ c a w, Q (.panic c) (a.put oi.dst v) w → Q (.panic c) a w) :
    ∀ (fuel : Nat) (listed : Array Bool) (a : Act) (w : World),
      (∀ j oj, ops[j]? = some oj → j ≠ i → listed.getD j true = false → (∀ e ∈ oj.after, Region.binds md e = true → e.on ≠ i) → oi.apart ops oj = true) →
      i ∈ Region.ready md ops listed → YieldsHIn F P ops S oi v a → S w →
      wpAnyHIn F n P md ops Q S fuel (listed.setIfInBounds i true) (a.put oi.dst v) w → wpAnyHIn F n P md ops Q S (fuel + 1) listed a w := by
  intro fuel
  induction fuel with
  | zero =>
    intro listed a w _ hr hy hS H
    refine ⟨fun h => (by rw [h] at hr; cases hr), fun j hj => ?_⟩
    by_cases hji : j = i
    · subst hji; exact hy.wpOpIn (noDefer_spec hnd hi) hi hS ⟨hS, H⟩
    · have := ready_mono hj hji
      rw [H.1] at this
      cases this
  | succ fuel ih =>
    intro listed a w hfree hr hy hS H
    refine ⟨fun h => (by rw [h] at hr; cases hr), fun j hj => ?_⟩
    by_cases hji : j = i
    · subst hji; exact hy.wpOpIn (noDefer_spec hnd hi) hi hS ⟨hS, H⟩
    · have h1 := H.2 j (ready_mono hj hji)
      obtain ⟨hjun, oj, hoj, hall⟩ := mem_ready.1 hj
      have hnot : ∀ e ∈ oj.after, Region.binds md e = true → e.on ≠ i := fun e he hb heq => by
        have h1 := hall e he hb
        have h0 := (mem_ready.1 hr).1
        rw [heq] at h1
        rcases Nat.lt_or_ge i listed.size with h' | h'
        · simp [h'] at h0 h1; rw [h0] at h1; cases h1
        · simp [Array.getElem?_eq_none h'] at h1
      have h2 := wpOpIn_putH (noDefer_spec hnd hoj) hoj (hfree j oj hoj hji hjun hnot) (fun cs b => hsel i oi cs b hi) (fun cs b => hsel j oj cs b hoj) hQ hy h1
      have hfree' : ∀ k ok, ops[k]? = some ok → k ≠ i → (listed.setIfInBounds j true).getD k true = false →
          (∀ e ∈ ok.after, Region.binds md e = true → e.on ≠ i) → oi.apart ops ok = true := fun k ok hk hki hun hno => by
        refine hfree k ok hk hki ?_ hno
        by_cases hjk : j = k
        · subst hjk; exact hjun
        · rw [getD_set_ne true hjk] at hun; exact hun
      refine wpOpIn_mono (fun a' w' h3 => ⟨h3.2.1, ih (listed.setIfInBounds j true) a' w' hfree' (ready_mono hr (Ne.symm hji)) h3.1 h3.2.1 ?_⟩) h2
      rw [Array.setIfInBounds_comm _ _ hji]
      exact h3.2.2

/-- Take number i first. -/
theorem wpAnyHIn_take (i : Nat) {l : List Oper} {oi : Oper} {v : Value} {fuel : Nat} {listed : Array Bool} {a : Act} {w : World} (hi : l[i]? = some oi) (hnd : noDeferB l.toArray = true)
    (hs : Region.noSelect l.toArray = true) (hf : Region.free md l.toArray listed i = true) (hr : (Region.ready md l.toArray listed).contains i = true)
    (hQ : ∀ c a w, Q (.panic c) (a.put oi.dst v) w → Q (.panic c) a w) (hb : ∀ w f, oi.about P w a.eval = some f → F.fn f) (hw : Region.wanted oi (yielded l.toArray a.tmps) = true) (hy : ∀ w, S w → (execOp a.eval oi).run P w = .ok (.value v) w) (hS : S w)
    (h : wpAnyHIn F n P md l.toArray Q S fuel (listed.setIfInBounds i true) (a.put oi.dst v) w) : wpAnyHIn F n P md l.toArray Q S (fuel + 1) listed a w :=
  have hi' : l.toArray[i]? = some oi := by simpa using hi
  wpAnyHIn_first hnd hi' (Region.noSelect_spec hs) hQ fuel listed a w (Region.free_spec hi' hf) (by simpa using hr) ⟨.inl ⟨hw, hy⟩, hb⟩ hS h
/-- Take number i first, which its guard strikes. -/
theorem wpAnyHIn_skip (i : Nat) {l : List Oper} {oi : Oper} {fuel : Nat} {listed : Array Bool} {a : Act} {w : World} (hi : l[i]? = some oi) (hnd : noDeferB l.toArray = true)
    (hs : Region.noSelect l.toArray = true) (hf : Region.free md l.toArray listed i = true) (hr : (Region.ready md l.toArray listed).contains i = true)
    (hQ : ∀ c a w, Q (.panic c) (a.put oi.dst undef) w → Q (.panic c) a w) (hb : ∀ w f, oi.about P w a.eval = some f → F.fn f) (hw : Region.wanted oi (yielded l.toArray a.tmps) = false) (hS : S w)
    (h : wpAnyHIn F n P md l.toArray Q S fuel (listed.setIfInBounds i true) (a.put oi.dst undef) w) : wpAnyHIn F n P md l.toArray Q S (fuel + 1) listed a w :=
  have hi' : l.toArray[i]? = some oi := by simpa using hi
  wpAnyHIn_first hnd hi' (Region.noSelect_spec hs) hQ fuel listed a w (Region.free_spec hi' hf) (by simpa using hr) ⟨.inr ⟨hw, rfl⟩, hb⟩ hS h

/-- Each of the operations rs comes up next; behind it S holds, and the rest goes in whatever order. -/
def AllHIn (F : Fence) (n : Nat) (P : Program) (md : Region.Mode) (ops : Array Oper) (Q : Exit → Act → World → Prop) (S : World → Prop) (fuel : Nat) (listed : Array Bool) (a : Act) (w : World) (rs : List Nat) : Prop :=
  ∀ i ∈ rs, wpOpIn F n P ops Q i (fun a' w' => S w' ∧ wpAnyHIn F n P md ops Q S fuel (listed.setIfInBounds i true) a' w') a w
theorem AllHIn.nil {fuel : Nat} {listed : Array Bool} {a : Act} {w : World} : AllHIn F n P md ops Q S fuel listed a w [] := fun _ h => by cases h
def Lid (p : Prop) : Prop := p
theorem Lid.out {p : Prop} (h : Lid p) : p := h
theorem AllHIn.cons {fuel : Nat} {listed : Array Bool} {a : Act} {w : World} {i : Nat} {l : List Oper} {o : Oper} {rs : List Nat} (ho : l[i]? = some o) (hw : Region.wanted o (yielded l.toArray a.tmps) = true)
    (h : ∀ K' : Act → World → Prop, Lid (∀ a w, S w → wpAnyHIn F n P md l.toArray Q S fuel (listed.setIfInBounds i true) a w → K' a w) → Oper.wpIn F n P o a w K' Q)
    (hs : AllHIn F n P md l.toArray Q S fuel listed a w rs) : AllHIn F n P md l.toArray Q S fuel listed a w (i :: rs) := fun j hj => by
  rcases List.mem_cons.1 hj with rfl | hj
  · refine wpOpIn_step (show l.toArray[_]? = some o by simpa using ho) fun K' hK => ?_
    rw [if_pos hw]
    exact h K' (fun a w hS hW => hK a w ⟨hS, hW⟩)
  · exact hs j hj
theorem wpAnyHIn_ready (rs : List Nat) {fuel : Nat} {listed : Array Bool} {a : Act} {w : World} (hr : Region.ready md ops listed = rs) (hne : rs ≠ [])
    (h : AllHIn F n P md ops Q S fuel listed a w rs) : wpAnyHIn F n P md ops Q S (fuel + 1) listed a w := ⟨fun h0 => absurd (hr ▸ h0) hne, hr ▸ h⟩
theorem wpAnyHIn_done {listed : Array Bool} {a : Act} {w : World} (hr : Region.ready md ops listed = []) (h : Q .normal a w) :
    ∀ fuel, wpAnyHIn F n P md ops Q S fuel listed a w
  | 0 => ⟨hr, h⟩
  | _ + 1 => ⟨fun _ => h, by rw [hr]; simp⟩
theorem wpIn_region_held (S : World → Prop) (k : Nat) {listed : List Bool} {id : Nat} {a : Act} {w : World} (hm : P.follows .mixedOrders = true) (hk : ops.size = k) (hl : List.replicate k false = listed)
    (h : wpAnyHIn F n P .any ops Q S k listed.toArray a w.drew) : (Code.region id ops true).wpIn F n P Q a w :=
  wpIn_region_any hm (wpAnyIn_of_held _ _ _ _ (by subst hk; subst hl; rw [List.toArray_replicate] at h; exact h))
end

end Go.Firn

namespace Go.Proofs.YtdlbgelidcfmiaaGreatDoor
open Go.RowKit Go.Firn Go.Shelf
theorem wide_fn (f : FuncId) : Fence.wide.fn f = True := rfl
attribute [local go_sem] Oper.semAt_some
attribute [local simp] wide_fn
theorem cell_near {w : World} {b j : Nat} {v : Value} (h : w.cell? ⟨b, j, none⟩ = some v) (u : Value) : (w.setCell ⟨b, j, none⟩ u).cell? ⟨b, j, none⟩ = some u :=
  World.cell?_setCell_same _ _ _ h
/-- Of what was there only the block bb was written. -/
def Wr (bb : Nat) (w w' : World) : Prop := w.grownBy w' (some bb)
theorem Wr.refl (bb : Nat) (w : World) : Wr bb w w := World.grownBy.refl w _
theorem Wr.set {bb : Nat} {a b : World} (h : Wr bb a b) (j : Nat) (u : Value) : Wr bb a (b.setCell ⟨bb, j, none⟩ u) :=
  h.trans ⟨rfl, rfl, rfl, by simp, fun k _ hne => Below.heap_setCell _ _ _ _ (fun e => hne (congrArg some e))⟩
theorem idx_is (c : UInt8) : ∀ R : Key, (Lib.indexByte R c = -1 ∧ c ∉ R) ∨ ∃ o : Nat, Lib.indexByte R c = o ∧ o < R.length ∧ c ∉ R.take o ∧ R[o]? = some c
  | [] => .inl ⟨rfl, by simp⟩
  | b :: l => by
    unfold Lib.indexByte
    by_cases hb : (b == c) = true
    · right
      refine ⟨0, by rw [if_pos hb]; rfl, by simp, by simp, by simp at hb; simp [hb]⟩
    · rw [if_neg hb]
      have hne : b ≠ c := by simpa using hb
      rcases idx_is c l with ⟨h1, h2⟩ | ⟨o, h1, h2, h3, h4⟩
      · left
        rw [h1]
        exact ⟨rfl, by simp [h2, hne.symm]⟩
      · right
        refine ⟨o + 1, ?_, by simp; omega, ?_, by simpa using h4⟩
        · rw [h1]
          have : ((o : Int) == -1) = false := by simp
          rw [this]
          simp
        · rw [List.take_succ_cons]
          simp [h3, hne.symm]
theorem split_len (c : UInt8) : ∀ K : Key, (splitK c K).length ≤ K.length + 1
  | [] => by simp [splitK]
  | b :: r => by
    have := split_len c r
    unfold splitK
    split
    · simp; omega
    · obtain ⟨h, t, e⟩ := splitK_cons c r
      rw [e] at this ⊢
      simp at this ⊢
      omega
theorem split_none {c : UInt8} {R : Key} (h : c ∉ R) : splitK c R = [R] := splitK_no h
theorem split_some {c : UInt8} {R : Key} {o : Nat} (h1 : c ∉ R.take o) (h2 : R[o]? = some c) : splitK c R = R.take o :: splitK c (R.drop (o + 1)) := by
  obtain ⟨hl, e⟩ := List.getElem?_eq_some_iff.1 h2
  have ee : R = R.take o ++ c :: R.drop (o + 1) := by
    conv => lhs; rw [← List.take_append_drop o R]
    rw [List.drop_eq_getElem_cons hl, e]
  conv => lhs; rw [ee]
  exact splitK_app _ h1
theorem ext_key' (R : Key) (f i : Nat) : (bA R).extract f i = bA ((R.drop f).take (i - f)) := by
  refine ByteArray.ext ?_
  rw [ByteArray.data_extract]
  apply Array.toList_inj.1
  rw [Array.toList_extract, List.extract_eq_take_drop]
  rfl
/-- A piece as it is handed to a round. -/
def encK (x : Key) : Array Value := #[.string (bA x)]
/-- The cells of the blocks of K lie as they lay, and may be written as before. -/
def Kb (K : Nat → Prop) (W W' : World) : Prop := ∀ (p : Addr) (v : Value), K p.block → W.cell? p = some v → W'.cell? p = some v ∧ W'.frozen? p = W.frozen? p
theorem Kb.trans {K : Nat → Prop} {A B C : World} (h : Kb K A B) (k : Kb K B C) : Kb K A C := fun p v hp e => by
  obtain ⟨h1, h2⟩ := h p v hp e
  obtain ⟨k1, k2⟩ := k p v hp h1
  exact ⟨k1, k2.trans h2⟩
theorem Kb.putObj {K : Nat → Prop} (W : World) (l : Nat) (o o' : Obj) (h : W.heap[l]? = some o) (hc : o.isCells = false) : Kb K W (W.putObj l o') := fun _ _ _ e =>
  ⟨cell_kept e (grownBy_putObj' W l o') (fun r er => by cases er; exact ⟨o, h, hc⟩), frozen_kept e (grownBy_putObj' W l o') (fun r er => by cases er; exact ⟨o, h, hc⟩)⟩
theorem Kb.gr {K : Nat → Prop} {W W' : World} (g : Gr W W') : Kb K W W' := fun _ _ _ e => ⟨g.cell e, Below.frozen g (World.block_lt_of_cell? W _ e)⟩
/-- The iterator's own write. -/
def WbS (bs : Nat) (A B : World) : Prop := ∃ (t : ByteArray) (u : Value), A.cell? ⟨bs, 0, none⟩ = some u ∧ B = A.setCell ⟨bs, 0, none⟩ (.string t)
theorem WbS.keeps {bs : Nat} {A B : World} (h : WbS bs A B) : ∀ (k : Nat) (o : Obj), A.heap[k]? = some o → o.isCells = false → B.heap[k]? = some o := by
  obtain ⟨t, u, _, rfl⟩ := h
  intro k o hk ho
  exact (KeepsOthers.setCell A ⟨bs, 0, none⟩ (.string t)).same k o hk ho
/-- How long the text of a box is. -/
def boxLen (b : Nat) (w : World) : Nat := match w.cell? ⟨b, 0, none⟩ with | some (.string t) => t.size | _ => 0
theorem boxLen_of {b : Nat} {w : World} {t : ByteArray} (h : w.cell? ⟨b, 0, none⟩ = some (.string t)) : boxLen b w = t.size := by
  unfold boxLen
  rw [h]
theorem grows' {w w' : World} (g : Gr w w') : w.grownBy w' none := ⟨g.os, g.tape, g.output, Gr.size g, fun k hk _ => Below.block g k hk⟩
set_option maxHeartbeats 8000000 in
set_option maxRecDepth 100000 in
theorem splitSeq1_seq (m : Nat) (hm : 1 ≤ m) (bs bp bv : Nat) (h1 : bs ≠ bp) (h2 : bs ≠ bv) (c : UInt8) (s : ByteArray) (w : World) (hs : s.size ≤ 1000000) (hb1 : w.cell? ⟨bp, 0, none⟩ = some (.string ⟨#[c]⟩)) (hb2 : w.cell? ⟨bs, 0, none⟩ = some (.string s)) (hf2 : w.frozen? ⟨bs, 0, none⟩ = false) (hb3 : w.cell? ⟨bv, 0, none⟩ = some (.int .i64 0)) :
    SeqW Fence.wide m Tryz.prog 71 #[.pointer (some ⟨bp, 0, none⟩), .pointer (some ⟨bs, 0, none⟩), .pointer (some ⟨bv, 0, none⟩)] encK (Kb fun k => k = bs ∨ k = bp ∨ k = bv) (WbS bs) (fun x => x.length ≤ 1000000) (fun xs => xs = splitK c s.data.toList) (fun pre => ∃ t, splitK c s.data.toList = pre ++ t) (s.size + 1) w := fun l J Jx W hW hJ hJw hJx hY h0 => by
  have B1 : W.cell? ⟨bp, 0, none⟩ = some (.string ⟨#[c]⟩) := by rw [Below.cell hW (p := ⟨bp, 0, none⟩) (World.block_lt_of_cell? w _ hb1)]; exact hb1
  have B2 : W.cell? ⟨bs, 0, none⟩ = some (.string s) := by rw [Below.cell hW (p := ⟨bs, 0, none⟩) (World.block_lt_of_cell? w _ hb2)]; exact hb2
  have B3 : W.cell? ⟨bv, 0, none⟩ = some (.int .i64 0) := by rw [Below.cell hW (p := ⟨bv, 0, none⟩) (World.block_lt_of_cell? w _ hb3)]; exact hb3
  have F2 : W.frozen? ⟨bs, 0, none⟩ = false := by rw [Below.frozen hW (World.block_lt_of_cell? w _ hb2)]; exact hf2
  have HB := Lib.hid (And.intro B1 (And.intro B2 (And.intro B3 F2)))
  have YY := Lib.hid hY
  have JJ := Lib.hid hJ
  have JW := Lib.hid hJw
  have H0 := Lib.hid h0
  have HNe := Lib.hid (And.intro h1 h2)
  have HS := Lib.hid hs
  have HL := Lib.hid (show (splitK c s.data.toList).length ≤ s.size + 1 by rw [← size_key]; exact split_len c _)
  have C94 := Lib.hid (fun (R : Key) wx => show Calls Tryz.prog 73 #[.string (bA R), .string ⟨#[c]⟩] wx fun e w' => e = .returned (.int .i64 (Lib.indexByte R c)) ∧ wx = w' from Calls.mono (Any.strings_Index_one Tryz.idx37 (bA R) c wx) fun e w' ⟨h1, h2⟩ => ⟨h1, h2.symm⟩)
  clear hb1 hb2 hb3 hf2 hY hJ hJw hJx h0 hW B2 B3 F2 h1 h2 hs
  refine callsIn_of_wp Tryz.func71 rfl trivial ?_ rfl
  simp only [Tryz.ntmps71, List.size_toArray, List.length_cons, List.length_nil, Nat.reduceAdd, Nat.reduceSub, Array.replicate_succ, Array.replicate_zero, List.push_toArray, List.append_toArray, List.nil_append, List.cons_append]
  gi_wp2
  gi_loopw [7] (fun _ wr => ∃ (pre : List Key) (R : Key), Hid (splitK c s.data.toList = pre ++ splitK c R) ∧ Hid (R.length ≤ 1000000) ∧ Hid (J pre wr) ∧ Hid (wr.cell? ⟨bp, 0, none⟩ = some (.string ⟨#[c]⟩) ∧ wr.cell? ⟨bs, 0, none⟩ = some (.string (bA R)) ∧ wr.cell? ⟨bv, 0, none⟩ = some (.int .i64 0) ∧ wr.frozen? ⟨bs, 0, none⟩ = false)) (fun _ wr => boxLen bs wr)
  case atStart => exact ⟨[], s.data.toList, Lib.hid rfl, Lib.hid (by rw [size_key]; exact HS.out), H0, HB⟩
  case round =>
    obtain ⟨pre, R, HP, HR, HJ, HC⟩ := hrel
    obtain ⟨c1, c2, c3, c4⟩ := HC.out
    have C := Lib.hid (C94.out R wr)
    have HPl := Lib.hid (show pre.length < s.size + 1 by
      have := HL.out
      rw [HP.out, List.length_append] at this
      have h2 : 0 < (splitK c R).length := List.length_pos_iff.2 (splitK_ne c R)
      have := HS.out
      omega)
    clear C94 H0
    rcases idx_is c R with ⟨e1, e2⟩ | ⟨o, e1, e2, e3, e4⟩
    · rw [e1] at C
      have HE := Lib.hid (show splitK c s.data.toList = pre ++ [R] by rw [HP.out, split_none e2])
      obtain ⟨fn, tmps, assign, body, hy, hR⟩ := YY.out pre R wr HJ.out HR.out HPl.out
      have hy' : (Instr.yield l #[.string (bA R)]).run Tryz.prog wr = .ok (.round l fn tmps assign body) wr := hy
      have HRR := Lib.hid hR
      clear e1 e2 hy hR
      gi_wp2_with (gi_at_call 73; (with_reducible refine (callsIn_wide.2 C.out).mono ?_); rintro e w6 ⟨rfl, rfl⟩)
      refine HRR.out.mono ?_
      rintro e W' (⟨rfl, hJ', hk'⟩ | ⟨rfl, hX'⟩)
      · have J7 := Lib.hid hJ'
        clear hJ' hk'
        gi_wp2
        go_end0
        exact ⟨⟨_, rfl⟩, .inl ⟨_, HE.out.symm, J7.out⟩⟩
      · have X7 := Lib.hid hX'
        clear hX'
        gi_wp2
        go_end0
        exact ⟨⟨_, rfl⟩, .inr ⟨_, ⟨[], by rw [HE.out, List.append_nil]⟩, X7.out⟩⟩
    · rw [e1] at C
      have HE := Lib.hid (show splitK c s.data.toList = (pre ++ [R.take o]) ++ splitK c (R.drop (o + 1)) by rw [HP.out, split_some e3 e4]; simp)
      obtain ⟨fn, tmps, assign, body, hy, hR⟩ := YY.out pre (R.take o) wr HJ.out (by rw [List.length_take]; have := HR.out; omega) HPl.out
      have hy' : (Instr.yield l #[.string (bA (R.take o))]).run Tryz.prog wr = .ok (.round l fn tmps assign body) wr := hy
      have HRR := Lib.hid hR
      have hx1 : (bA R).extract 0 o = bA (R.take o) := by rw [ext_key']; simp
      have hx2 : (bA R).extract (o + 1) (bA R).size = bA (R.drop (o + 1)) := by
        rw [ext_key', bA_size, List.take_of_length_le (by rw [List.length_drop]; exact Nat.le_refl _)]
      have o0 : ¬ (o : Int) < 0 := by omega
      have o1 : (o : Int) ≤ ((bA R).size : Int) := by rw [bA_size]; omega
      have o2 : (o : Int) + 1 ≤ ((bA R).size : Int) := by rw [bA_size]; omega
      have v1 : IntKind.i64.wrap (o : Int) = (o : Int) := IntWalk.i64_in _ (by have := HR.out; omega)
      have v2 : IntKind.i64.wrap ((o : Int) + 1) = ((o + 1 : Nat) : Int) := by rw [IntWalk.i64_in _ (by have := HR.out; omega)]; omega
      have HO := Lib.hid e2
      clear e1 e2 e3 e4 hy hR
      gi_wp2_with (gi_at_call 73; (with_reducible refine (callsIn_wide.2 C.out).mono ?_); rintro e w6 ⟨rfl, rfl⟩)
      refine HRR.out.mono ?_
      rintro e W' (⟨rfl, hJ', hk'⟩ | ⟨rfl, hX'⟩)
      · have J7 := Lib.hid hJ'
        obtain ⟨k1, _⟩ := hk' ⟨bp, 0, none⟩ _ (.inr (.inl rfl)) c1
        obtain ⟨k2, k4⟩ := hk' ⟨bs, 0, none⟩ _ (.inl rfl) c2
        obtain ⟨k3, _⟩ := hk' ⟨bv, 0, none⟩ _ (.inr (.inr rfl)) c3
        rw [c4] at k4
        have HCn := Lib.hid (show (W'.setCell ⟨bs, 0, none⟩ (.string (bA (R.drop (o + 1))))).cell? ⟨bp, 0, none⟩ = some (.string ⟨#[c]⟩) ∧ (W'.setCell ⟨bs, 0, none⟩ (.string (bA (R.drop (o + 1))))).cell? ⟨bs, 0, none⟩ = some (.string (bA (R.drop (o + 1)))) ∧ (W'.setCell ⟨bs, 0, none⟩ (.string (bA (R.drop (o + 1))))).cell? ⟨bv, 0, none⟩ = some (.int .i64 0) ∧ (W'.setCell ⟨bs, 0, none⟩ (.string (bA (R.drop (o + 1))))).frozen? ⟨bs, 0, none⟩ = false from
          ⟨by rw [World.cell?_setCell_other _ _ _ _ (fun e => HNe.out.1 (congrArg Addr.block e))]; exact k1, cell_near k2 _, by rw [World.cell?_setCell_other _ _ _ _ (fun e => HNe.out.2 (congrArg Addr.block e))]; exact k3, by rw [World.frozen?_setCell]; exact k4⟩)
        have J8 := Lib.hid (JW.out _ W' _ J7.out ⟨bA (R.drop (o + 1)), _, k2, rfl⟩)
        have HM1 := Lib.hid (boxLen_of (b := bs) c2)
        have HM2 := Lib.hid (boxLen_of (b := bs) HCn.out.2.1)
        clear hJ' hk' c1 c2 c3 c4 hy'
        gi_wp2
        go_roundw
        case rel => exact ⟨_, _, HE, Lib.hid (by rw [List.length_drop]; have := HR.out; omega), J8, HCn⟩
        case measure =>
          rw [HM1.out, HM2.out, bA_size, bA_size, List.length_drop]
          have := HO.out
          omega
      · have X7 := Lib.hid hX'
        clear hX'
        gi_wp2
        refine bodyPost_ret (results_none rfl _ _ _) rfl ?_
        exact ⟨⟨_, rfl⟩, .inr ⟨_, ⟨_, HE.out⟩, X7.out⟩⟩
/-- SplitSeq: its iterator, and the boxes of its text, of what parts it, and of 0. -/
theorem SplitSeq_any (s p : ByteArray) (w : World) : Calls Tryz.prog 35 #[.string s, .string p] w fun e w' =>
    e = .returned (.func (.func 71) #[] #[.pointer (some ⟨w.heap.size + 1, 0, none⟩), .pointer (some ⟨w.heap.size, 0, none⟩), .pointer (some ⟨w.heap.size + 2, 0, none⟩)]) ∧
    w' = ((w.alloc (.cells #[.string s] 9)).alloc (.cells #[.string p] 9)).alloc (.cells #[.int .i64 0] 3) := by
  have hmf : ∀ (fn : Fn) (first cap : Array Value) (w : World), (Instr.makeFunc fn first cap).run Tryz.prog w = .ok (.func fn first cap) w := fun _ _ _ _ => rfl
  go_enter Tryz.func35, Tryz.ntmps35
  go_wp2
  go_ret
  exact ⟨rfl, rfl⟩
/-- What the two error variables hold. -/
def Errs (w : World) : Prop := ∀ g, g = 1 ∨ g = 2 → ∃ ev, w.cell? ⟨g, 0, none⟩ = some ev ∧ (ev = .nilIface ∨ ∃ te pe, ev = .iface te pe)
theorem Errs.gr {w w' : World} (h : Errs w) (g : Gr w w') : Errs w' := fun k hk => by
  obtain ⟨ev, h1, h2⟩ := h k hk
  exact ⟨ev, g.cell h1, h2⟩
theorem atoi_yes (d : Key) (v : Int) (h : Lib.atoiAll d = .ok v) (hd : d.length ≤ 1000000) (w : World) : Calls Tryz.prog 37 #[.string (bA d)] w fun e w' => e = .returned (.tuple #[.int .i64 v, .nilIface]) ∧ Gr w w' := by
  have hh := Any.strconv_Atoi_ok Tryz.atoi18 (bA d) (by rw [bA_size]; omega) v (by rw [bA_list]; exact h) w
  refine Calls.mono hh ?_
  rintro e w' ⟨rfl, (rfl | ⟨t, rfl⟩)⟩
  · exact ⟨rfl, Gr.refl _⟩
  · exact ⟨rfl, Lib.bytesWorld_below _ _ _⟩
theorem atoi_not (d : Key) (h : ∀ v, Lib.atoiAll d ≠ .ok v) (hd : d.length ≤ 1000000) (w : World) (he : Errs w) : Calls Tryz.prog 37 #[.string (bA d)] w fun e w' => (∃ n N, e = .returned (.tuple #[.int .i64 n, .iface 116 (.pointer (some ⟨N, 0, none⟩))])) ∧ Gr w w' := by
  rcases ha : Lib.atoiAll d with v | _ | _
  · exact absurd ha (h v)
  · obtain ⟨ev, h1, h2⟩ := he 1 (.inl rfl)
    have hh := Any.strconv_Atoi_syntax Tryz.atoi18 (bA d) (by rw [bA_size]; omega) (by rw [bA_list]; exact ha) ev w h1 h2
    refine Calls.mono hh ?_
    rintro e w' ⟨N, rfl, _, _, g⟩
    exact ⟨⟨_, _, rfl⟩, g⟩
  · obtain ⟨ev, h1, h2⟩ := he 2 (.inr rfl)
    have hh := Any.strconv_Atoi_range Tryz.atoi18 (bA d) (by rw [bA_size]; omega) (by rw [bA_list]; exact ha) ev w h1 h2
    refine Calls.mono hh ?_
    rintro e w' ⟨N, rfl, _, _, g⟩
    exact ⟨⟨_, _, rfl⟩, g⟩
theorem own_not {w : World} {base e n : Nat} {v : Value} {xs : List Value} (h : w.ownsRow base e 2 v n xs) {b : Nat} (hb : v.ownBlock = some b) : ∃ o : Obj, w.heap[b]? = some o ∧ o.isCells = true ∧ base ≤ b := by
  rcases h.2 with ⟨rfl, _⟩ | ⟨g, cap, cur, rfl, h1, h2, _⟩
  · simp [Value.ownBlock] at hb
  · simp [Value.ownBlock] at hb
    subst hb
    exact ⟨_, h2, rfl, h1⟩
/-- A step that lays new blocks, draws, and writes the box b4. -/
theorem Kb.boxed {bs bp bv b4 : Nat} {W W1 : World} (g : Gr W W1) (h1 : b4 ≠ bs) (h2 : b4 ≠ bp) (h3 : b4 ≠ bv) (v : Value) : Kb (fun k => k = bs ∨ k = bp ∨ k = bv) W (W1.setCell ⟨b4, 0, none⟩ v) := by
  intro p u hp e
  have hne : (⟨b4, 0, none⟩ : Addr) ≠ p := by
    rintro rfl
    rcases hp with h | h | h
    · exact h1 h
    · exact h2 h
    · exact h3 h
  rw [World.cell?_setCell_other _ _ _ _ hne, World.frozen?_setCell]
  exact ⟨g.cell e, Below.frozen g (World.block_lt_of_cell? W _ e)⟩
theorem KeepsOthers.gr {W W' : World} (g : Gr W W') : KeepsOthers W W' := KeepsOthers.of_grownBy (grows' g) (fun _ _ e => by cases e)
theorem rows_gr {w w' : World} {base e n k : Nat} {v : Value} {xs : List Value} (h : w.ownsRow base e n v k xs) (g : Gr w w') : w'.ownsRow base e n v k xs :=
  h.kept (grows' g) (by cases v.ownBlock <;> simp)
/-- What a box holds stands behind a growing row that is another one. -/
theorem grown_box {A B : World} {row : Option Nat} {b : Nat} {v : Value} (hg : A.grownBy B row) (hc : A.cell? ⟨b, 0, none⟩ = some v) (hne : row ≠ some b) : B.cell? ⟨b, 0, none⟩ = some v ∧ B.frozen? ⟨b, 0, none⟩ = A.frozen? ⟨b, 0, none⟩ := by
  have hlt := World.block_lt_of_cell? A _ hc
  have e := hg.block b hlt (fun e => hne e.symm)
  exact ⟨(World.cell?_of_block e).trans hc, World.frozen?_of_block e⟩
theorem heap_gr {W W' : World} {D : Nat} {o : Obj} (h : W.heap[D]? = some o) (g : Gr W W') : W'.heap[D]? = some o :=
  (Below.block g D (Array.getElem?_eq_some_iff.1 h).1).trans h
theorem gr_put {w W : World} {D : Nat} (g : Gr w W) (hD : w.heap.size ≤ D) : Gr w (W.putObj D (.deferred none)) :=
  g.grown (grownBy_putObj' W D _) (fun k er => by cases er; omega)
theorem own_put {W : World} {base n D : Nat} {v : Value} {xs : List Value} (h : W.ownsRow base 55 2 v n xs) (hd : W.heap[D]? = some (.deferred (some []))) : (W.putObj D (.deferred none)).ownsRow base 55 2 v n xs :=
  h.kept (grownBy_putObj' W D _) (by
    cases hv : v.ownBlock with
    | none => exact .inl rfl
    | some b =>
      right
      intro e
      obtain ⟨o, ho, hc, _⟩ := own_not h hv
      cases e
      rw [hd] at ho
      cases ho
      simp [Obj.isCells] at hc)

end Go.Proofs.YtdlbgelidcfmiaaGreatDoor
