import Derived.RangeFuncFrom
import Derived.RangeFuncBound
import Derived.RangeFuncCalls
import Derived.RangeFuncLeaves
import Derived.Shelf.Abstract
import Derived.Shelf.RegionOpen
import Derived.TacticsInMore
import Derived.LoopNIn
import Derived.LoopIn
import Derived.Shelf.Strings.Prefix
import Derived.Shelf.Strings.Search3
import Derived.Shelf.Strconv.Itoa3
import Derived.Shelf.Strconv.AtoiAll
import Derived.Shelf.LaysM
import Derived.Shelf.LaysC
import Derived.Lib.AppendIntMem
import Derived.Test.YtehdemcfeoiecaaGreatDoorK07
set_option maxHeartbeats 64000000
set_option maxRecDepth 100000
namespace Go.Firn
open Go.RowKit
variable {F : Fence} {n : Nat} {P : Program}
end Go.Firn
namespace Go.Firn
open Go.RowKit
variable {F : Fence} {n : Nat} {P : Program}
def SeqW {α : Type} (F : Fence) (n : Nat) (P : Program) (g : Nat) (lb : Array Value) (encs : α → Array Value) (Kp Wb : World → World → Prop) (Px : α → Prop) (S Sp : List α → Prop) (N : Nat) (w : World) : Prop :=
 ∀ (l : Nat) (J Jx : List α → World → Prop) (W : World), Below w.heap.size w W → AbidesFrom W.heap.size J → (∀ pre A B, J pre A → Wb A B → J pre B) → AbidesFrom W.heap.size Jx →
  (∀ pre x W1, J pre W1 → Px x → pre.length < N → YieldAt F (n - 1) P l (encs x) W1 fun e W' =>
   (e = .returned (.bool true) ∧ J (pre ++ [x]) W' ∧ Kp W1 W') ∨ (e = .returned (.bool false) ∧ Jx (pre ++ [x]) W')) →
  J [] W →
  CallsIn F n P g (#[.func (.yield l) #[] #[]] ++ lb) W fun e W' => (∃ v, e = .returned v) ∧ ((∃ xs, S xs ∧ J xs W') ∨ (∃ pre, Sp pre ∧ Jx pre W'))
theorem rangeFunc_wr {α : Type} {g : Operand} {ps : Array Tmp} {assign body : Code} {Q : Exit → Act → World → Prop} {a : Act} {w : World}
  (hro : F.round = none) (h1 : 1 ≤ n) {gf : Nat} {lb : Array Value} (hg : a.eval g = .func (.func gf) #[] lb) (hFg : F.fn gf) (eg : ∀ args w, (callFunc gf args).run P w = .ok (.enter gf args) w)
  {encs : α → Array Value} {Kp Wb : World → World → Prop} {Px : α → Prop} {S Sp : List α → Prop} {N : Nat} {w0 : World} (hseq : SeqW F (n - 1) P gf lb encs Kp Wb Px S Sp N w0)
  (hKt : ∀ {A B C : World}, Kp A B → Kp B C → Kp A C) (hKb : ∀ (W : World) (l : Nat) (o o' : Obj), w.heap.size ≤ l → W.heap[l]? = some o → o.isCells = false → o.isWalk = false → Kp W (W.putObj l o'))
  (hWb : ∀ A B, Wb A B → ∀ (k : Nat) (o : Obj), A.heap[k]? = some o → o.isCells = false → B.heap[k]? = some o)
  (hb0 : Below w0.heap.size w0 w) (hps : ∀ x, (encs x).size = ps.size)
  (I : List α → World → Prop) (Ix : Code → List α → World → Prop) (hI : OwnFrom w.heap.size I) (hIW : ∀ pre A B, I pre A → Wb A B → I pre B) (hIx : ∀ c, OwnFrom w.heap.size (Ix c)) (h0 : I [] w) (a₁ : α → Act)
  (hassign : ∀ (l : Nat) (x : α) (W : World) (K : Act → World → Prop), K (a₁ x) W →
   assign.wpIn (F.inRound l) (n - 1 - 1) P (Exit.then K (fun _ _ _ => False)) { tmps := (ps.zip (encs x)).foldl (fun t (p, v) => t.setIfInBounds p v) a.tmps, defers := [] } W)
  (hbody : ∀ (l : Nat) (pre : List α) (x : α) (W : World), I pre W → Px x → pre.length < N → body.wpIn (F.inRound l) (n - 1 - 1) P (ownPostK Kp I Ix (pre ++ [x]) W) (a₁ x) W)
  (hdone : ∀ (D : Nat) (xs : List α) (W : World), w.heap.size ≤ D → S xs → I xs W → W.heap[D]? = some (.deferred (some [])) → Q .normal { a with defers := { target := .collected D, args := #[] } :: a.defers } W)
  (hstop : ∀ (D : Nat) (c : Code) (pre : List α) (W : World), w.heap.size ≤ D → Sp pre → Ix c pre W → W.heap[D]? = some (.deferred (some [])) → c.wpIn F n P Q { a with defers := { target := .collected D, args := #[] } :: a.defers } W) :
  (Code.rangeFunc g ps assign body).wpIn F n P Q a w := by
 refine wpIn_rangeFunc ?_
 intro fn hfn
 rw [hro]
 obtain ⟨rec, hrec⟩ : ∃ rec : LoopState → Option Code → Loop, rec = fun st pe => { state := st, pending := pe, fn, tmps := a.tmps, params := ps, assign, body, defers := w.heap.size } := ⟨_, rfl⟩
 obtain ⟨W1, hW1⟩ : ∃ W1, (w.alloc (.deferred (some []))).alloc (.loop (rec .ready none)) = W1 := ⟨_, rfl⟩
 have loop0 : W1.heap[w.heap.size + 1]? = some (.loop (rec .ready none)) := by
  rw [← hW1]
  have := World.alloc_heap_new (w.alloc (.deferred (some []))) (.loop (rec .ready none))
  rwa [World.size_alloc] at this
 have defs0 : W1.heap[w.heap.size]? = some (.deferred (some [])) := by
  rw [← hW1]
  exact (Below.heap_alloc _ _ _ (by simp)).trans (World.alloc_heap_new w _)
 have inv0 : I [] W1 := by rw [← hW1]; exact hI.alloc _ (hI.alloc _ h0)
 have bel0 : Below w0.heap.size w0 W1 := by
  rw [← hW1]
  exact hb0.trans ((((Below.refl _ w).alloc (Nat.le_refl _) _).alloc (by simp) _).mono hb0.size)
 refine ⟨w.heap.size + 1, [{ target := .collected w.heap.size, args := #[] }], W1, { target := .fn (.func gf) lb, args := #[.func (.yield (w.heap.size + 1)) #[] #[]] }, W1, gf,
  #[.func (.yield (w.heap.size + 1)) #[] #[]] ++ lb, W1, ?_, ?_, ?_, ?_, fun _ => h1, ?_⟩
 ·rw [← hW1, hrec]; exact run_enterLoop_outer _ _ _ _ _
 ·simp only [resolve, hg]
  simp [go_sem]
 ·intro f' hf'; simp [Target.leads] at hf'; subst hf'; exact hFg
 ·simp [invoke, go_sem, eg]
 have turn : ∀ {A B : World} {row : Option Nat}, (∀ r, row = some r → W1.heap.size ≤ r ∧ ∃ o : Obj, A.heap[r]? = some o ∧ o.isWalk = true) → (∀ r, row = some r → w.heap.size ≤ r ∧ ∃ o : Obj, A.heap[r]? = some o ∧ o.isCells = false) :=
  fun hr r e => by obtain ⟨hB, o, ho, hw⟩ := hr r e; exact ⟨by rw [← hW1] at hB; simp at hB; omega, o, ho, Obj.not_cells_of_walk hw⟩
 refine (hseq (w.heap.size + 1)
  (fun pre W => I pre W ∧ W.heap[w.heap.size + 1]? = some (.loop (rec .ready none)) ∧ W.heap[w.heap.size]? = some (.deferred (some [])))
  (fun pre W => ∃ c, Ix c pre W ∧ W.heap[w.heap.size + 1]? = some (.loop (rec .done (some c))) ∧ W.heap[w.heap.size]? = some (.deferred (some [])))
  W1 bel0
  (fun s A B row hs hg' hr => ⟨hI s A B row hs.1 hg' (turn (B := B) hr), (grownBy_keeps hg' (fun r e => (hr r e).2) hs.2.1 rfl).trans hs.2.1, (grownBy_keeps hg' (fun r e => (hr r e).2) hs.2.2 rfl).trans hs.2.2⟩)
  (fun pre A B hs hw => ⟨hIW pre A B hs.1 hw, hWb A B hw _ _ hs.2.1 rfl, hWb A B hw _ _ hs.2.2 rfl⟩)
  (fun s A B row hs hg' hr => by
   obtain ⟨c, hc, hl, hk⟩ := hs
   exact ⟨c, hIx c s A B row hc hg' (turn (B := B) hr), (grownBy_keeps hg' (fun r e => (hr r e).2) hl rfl).trans hl, (grownBy_keeps hg' (fun r e => (hr r e).2) hk rfl).trans hk⟩)
  ?_ ⟨inv0, loop0, defs0⟩).mono ?_
 ·rintro pre x W ⟨hi, hl, hk⟩ hpx hlen
  have hlt : w.heap.size + 1 < W.heap.size := (Array.getElem?_eq_some_iff.1 hl).1
  have hy := run_yield (P := P) (args := encs x) hl (by rw [hrec]; exact hps x)
  rw [hrec] at hy
  refine ⟨fn, _, assign, body, hy, roundIn_of_wpIn hfn (hassign _ x W _ ⟨_, run_beginRound hl (by rw [hrec]), ?_⟩)⟩
  have hl2 : (W.putObj (w.heap.size + 1) (.loop { rec .ready none with state := .busy })).heap[w.heap.size + 1]? = some (.loop { rec .ready none with state := .busy }) := World.putObj_heap_same hlt
  have hk2 : (W.putObj (w.heap.size + 1) (.loop { rec .ready none with state := .busy })).heap[w.heap.size]? = some (.deferred (some [])) := (World.putObj_heap_other (by omega)).trans hk
  have hw2 : Kp W (W.putObj (w.heap.size + 1) (.loop { rec .ready none with state := .busy })) := hKb _ _ _ _ (by omega) hl rfl rfl
  refine wpIn_mono (hbody _ pre x _ (hI.putObj _ hi (by omega) hl rfl) hpx hlen) ?_
  have fin : ∀ (jump : Option Code) (W3 : World), KeepsOthers (W.putObj (w.heap.size + 1) (.loop { rec .ready none with state := .busy })) W3 →
    (Instr.endRound (w.heap.size + 1) jump).run P W3 = .ok (.bool jump.isNone) (W3.putObj (w.heap.size + 1) (.loop (rec (if jump.isNone then .ready else .done) jump))) ∧
    W3.heap[w.heap.size + 1]? = some (.loop { rec .ready none with state := .busy }) ∧
    (W3.putObj (w.heap.size + 1) (.loop (rec (if jump.isNone then .ready else .done) jump))).heap[w.heap.size + 1]? = some (.loop (rec (if jump.isNone then .ready else .done) jump)) ∧
    (W3.putObj (w.heap.size + 1) (.loop (rec (if jump.isNone then .ready else .done) jump))).heap[w.heap.size]? = some (.deferred (some [])) := fun jump W3 hk3 => by
   have hl3 := hk3.same _ _ hl2 rfl
   have := run_endRound (P := P) jump hl3
   rw [hrec] at this ⊢
   exact ⟨this, by rw [hrec] at hl3; exact hl3, World.putObj_heap_same (Array.getElem?_eq_some_iff.1 hl3).1, (World.putObj_heap_other (by omega)).trans (hk3.same _ _ hk2 rfl)⟩
  rintro e a3 W3 hp
  cases e with
  | normal =>
   obtain ⟨hk3, hkp3, hi3⟩ := hp
   obtain ⟨hr, hl3, hl4, hk4⟩ := fin none W3 hk3
   exact ⟨_, _, hr, .inl ⟨rfl, ⟨hI.putObj _ hi3 (by omega) hl3 rfl, hl4, hk4⟩, hKt (hKt hw2 hkp3) (hKb _ _ _ _ (by omega) hl3 rfl rfl)⟩⟩
  | ret =>
   obtain ⟨hk3, hi3⟩ := hp
   obtain ⟨hr, hl3, hl4, hk4⟩ := fin (some .ret) W3 hk3
   exact ⟨_, _, hr, .inr ⟨rfl, .ret, (hIx _).putObj _ hi3 (by omega) hl3 rfl, hl4, hk4⟩⟩
  | exit id =>
   obtain ⟨hk3, hi3⟩ := hp
   obtain ⟨hr, hl3, hl4, hk4⟩ := fin (some (.exit id)) W3 hk3
   exact ⟨_, _, hr, .inr ⟨rfl, .exit id, (hIx _).putObj _ hi3 (by omega) hl3 rfl, hl4, hk4⟩⟩
  | goto t =>
   obtain ⟨hk3, hi3⟩ := hp
   obtain ⟨hr, hl3, hl4, hk4⟩ := fin (some (.goto t)) W3 hk3
   exact ⟨_, _, hr, .inr ⟨rfl, .goto t, (hIx _).putObj _ hi3 (by omega) hl3 rfl, hl4, hk4⟩⟩
  | panic ch =>
   exact hp.elim
  | outgrown =>
   exact hp.elim
 rintro e W2 ⟨⟨v, rfl⟩, (⟨xs, hS, hi, hl, hk⟩ | ⟨pre, hSp, c, hi, hl, hk⟩)⟩
 ·exact ⟨none, _, by have := run_endLoop (P := P) hl (by rw [hrec]; simp); rw [hrec] at this; exact this, hdone _ xs _ (Nat.le_refl _) hS (hI.putObj _ hi (by omega) hl rfl) ((World.putObj_heap_other (by omega)).trans hk)⟩
 exact ⟨some c, _, by have := run_endLoop (P := P) hl (by rw [hrec]; simp); rw [hrec] at this; exact this, hstop _ c pre _ (Nat.le_refl _) hSp ((hIx c).putObj _ hi (by omega) hl rfl) ((World.putObj_heap_other (by omega)).trans hk)⟩
end Go.Firn
/-
 DERIVED: THE SHELF's CONTRACTS AT THIS DUMP, IN PLAIN WORDS (tools/lay-plain.mjs out of 'YtehdemcfeoiecaaGreatDoorShelf.lean', which tools/lay-shelf.mjs wrote): THE SAME DECLARATIONS UNDER THE SAME NAMES: 'import', 'namespace', 'open', 'def', 'theorem' AND NOTHING ELSE: no command of the shelf's: FOR A HAND-IN. Each laying: the table of numbers ('.._ren') and one theorem, a field a fact of the dump's own or the kernel's comparison; each contract: ONE APPLICATION.
-/
namespace Go.Proofs
open Go.Shelf
def Tryz.itoa124_ren : Go.Shelf.Ren := ⟨fun | 171 => 124 | 243 => 157 | 246 => 192 | 283 => 227 | 284 => 228 | 285 => 229 | 286 => 230 | 129 => 214 | 317 => 249 | 318 => 250 | 319 => 251 | 320 => 252 | 337 => 259 | 338 => 260 | n => n, fun | 3 => 3 | 9 => 9 | 2 => 2 | 4 => 4 | 171 => 263 | 0 => 0 | 53 => 247 | 37 => 176 | 5 => 5 | 173 => 265 | 212 => 286 | 51 => 245 | 20 => 20 | 213 => 287 | 46 => 219 | 232 => 293 | 233 => 294 | n => n, fun | 17 => 5 | 18 => 6 | 19 => 7 | n => n⟩
theorem Tryz.itoa124 : Go.Proofs.LaysM.n171 Tryz.prog Tryz.itoa124_ren := {
 mixed := by kernel_rfl
 f129 := Tryz.func214.trans (congrArg some (by kernel_rfl))
 f171 := Tryz.func124.trans (congrArg some (by kernel_rfl))
 f243 := Tryz.func157.trans (congrArg some (by kernel_rfl))
 f246 := Tryz.func192.trans (congrArg some (by kernel_rfl))
 f283 := Tryz.func227.trans (congrArg some (by kernel_rfl))
 f284 := Tryz.func228.trans (congrArg some (by kernel_rfl))
 f285 := Tryz.func229.trans (congrArg some (by kernel_rfl))
 f286 := Tryz.func230.trans (congrArg some (by kernel_rfl))
 f317 := Tryz.func249.trans (congrArg some (by kernel_rfl))
 f318 := Tryz.func250.trans (congrArg some (by kernel_rfl))
 f319 := Tryz.func251.trans (congrArg some (by kernel_rfl))
 f320 := Tryz.func252.trans (congrArg some (by kernel_rfl))
 f337 := Tryz.func259.trans (congrArg some (by kernel_rfl))
 f338 := Tryz.func260.trans (congrArg some (by kernel_rfl))
 t0 := Tryz.underlying0
 a0 := Tryz.isAgg0
 z0 := Tryz.sizeOf0
 v0 := Tryz.zeroValue0
 t2 := Tryz.underlying2
 a2 := Tryz.isAgg2
 z2 := Tryz.sizeOf2
 v2 := Tryz.zeroValue2
 t3 := Tryz.underlying3
 a3 := Tryz.isAgg3
 z3 := Tryz.sizeOf3
 v3 := Tryz.zeroValue3
 t4 := Tryz.underlying4
 a4 := Tryz.isAgg4
 z4 := Tryz.sizeOf4
 v4 := Tryz.zeroValue4
 t5 := Tryz.underlying5
 a5 := Tryz.isAgg5
 z5 := Tryz.sizeOf5
 v5 := Tryz.zeroValue5
 t9 := Tryz.underlying9
 a9 := Tryz.isAgg9
 z9 := Tryz.sizeOf9
 v9 := Tryz.zeroValue9
 t20 := Tryz.underlying20
 a20 := Tryz.isAgg20
 z20 := Tryz.sizeOf20
 v20 := Tryz.zeroValue20
 t37 := Tryz.underlying176
 a37 := Tryz.isAgg176
 z37 := Tryz.sizeOf176
 v37 := Tryz.zeroValue176
 t46 := Tryz.underlying219
 a46 := Tryz.isAgg219
 z46 := Tryz.sizeOf219
 v46 := Tryz.zeroValue219
 t51 := Tryz.underlying245
 a51 := Tryz.isAgg245
 z51 := Tryz.sizeOf245
 v51 := Tryz.zeroValue245
 t53 := Tryz.underlying247
 a53 := Tryz.isAgg247
 z53 := Tryz.sizeOf247
 v53 := Tryz.zeroValue247
 t171 := Tryz.underlying263
 a171 := Tryz.isAgg263
 z171 := Tryz.sizeOf263
 v171 := Tryz.zeroValue263
 t173 := Tryz.underlying265
 a173 := Tryz.isAgg265
 z173 := Tryz.sizeOf265
 v173 := Tryz.zeroValue265
 t212 := Tryz.underlying286
 a212 := Tryz.isAgg286
 z212 := Tryz.sizeOf286
 v212 := Tryz.zeroValue286
 t213 := Tryz.underlying287
 a213 := Tryz.isAgg287
 z213 := Tryz.sizeOf287
 t232 := Tryz.underlying293
 a232 := Tryz.isAgg293
 z232 := Tryz.sizeOf293
 v232 := Tryz.zeroValue293
 t233 := Tryz.underlying294
 a233 := Tryz.isAgg294
 z233 := Tryz.sizeOf294
 v233 := Tryz.zeroValue294
 g17 := by kernel_rfl
 g18 := by kernel_rfl
 g19 := by kernel_rfl
 i0 := by kernel_rfl
 i2 := by kernel_rfl
 i3 := by kernel_rfl
 i4 := by kernel_rfl
 i5 := by kernel_rfl
 i9 := by kernel_rfl
 i20 := by kernel_rfl
 i37 := by kernel_rfl
 i46 := by kernel_rfl
 i51 := by kernel_rfl
 i53 := by kernel_rfl
 i171 := by kernel_rfl
 i173 := by kernel_rfl
 i212 := by kernel_rfl
 i232 := by kernel_rfl
 i233 := by kernel_rfl
 m17 := by kernel_rfl
 m18 := by kernel_rfl
 m19 := by kernel_rfl }
def Tryz.atoi123_ren : Go.Shelf.Ren := ⟨fun | 172 => 123 | 244 => 155 | 245 => 156 | 247 => 187 | 279 => 188 | 280 => 189 | 281 => 190 | 282 => 191 | 287 => 224 | 316 => 225 | 171 => 124 | 205 => 226 | 321 => 247 | 322 => 248 | 243 => 157 | 246 => 192 | 283 => 227 | 284 => 228 | 285 => 229 | 286 => 230 | 129 => 214 | 317 => 249 | 318 => 250 | 319 => 251 | 320 => 252 | 337 => 259 | 338 => 260 | n => n, fun | 9 => 9 | 3 => 3 | 75 => 170 | 76 => 171 | 4 => 4 | 5 => 5 | 167 => 223 | 37 => 176 | 0 => 0 | 85 => 224 | 2 => 2 | 168 => 226 | 53 => 247 | 175 => 257 | 46 => 219 | 210 => 261 | 127 => 281 | 145 => 284 | 143 => 282 | 21 => 21 | 171 => 263 | 173 => 265 | 212 => 286 | 51 => 245 | 20 => 20 | 213 => 287 | 232 => 293 | 233 => 294 | 80 => 295 | n => n, fun | 15 => 3 | 16 => 4 | 17 => 5 | 18 => 6 | 19 => 7 | n => n⟩
theorem Tryz.atoi123 : Go.Proofs.LaysC.n172 Tryz.prog Tryz.atoi123_ren := {
 mixed := by kernel_rfl
 f129 := Tryz.func214.trans (congrArg some (by kernel_rfl))
 f171 := Tryz.func124.trans (congrArg some (by kernel_rfl))
 f172 := Tryz.func123.trans (congrArg some (by kernel_rfl))
 f205 := Tryz.func226.trans (congrArg some (by kernel_rfl))
 f243 := Tryz.func157.trans (congrArg some (by kernel_rfl))
 f244 := Tryz.func155.trans (congrArg some (by kernel_rfl))
 f245 := Tryz.func156.trans (congrArg some (by kernel_rfl))
 f246 := Tryz.func192.trans (congrArg some (by kernel_rfl))
 f247 := Tryz.func187.trans (congrArg some (by kernel_rfl))
 f279 := Tryz.func188.trans (congrArg some (by kernel_rfl))
 f280 := Tryz.func189.trans (congrArg some (by kernel_rfl))
 f281 := Tryz.func190.trans (congrArg some (by kernel_rfl))
 f282 := Tryz.func191.trans (congrArg some (by kernel_rfl))
 f283 := Tryz.func227.trans (congrArg some (by kernel_rfl))
 f284 := Tryz.func228.trans (congrArg some (by kernel_rfl))
 f285 := Tryz.func229.trans (congrArg some (by kernel_rfl))
 f286 := Tryz.func230.trans (congrArg some (by kernel_rfl))
 f287 := Tryz.func224.trans (congrArg some (by kernel_rfl))
 f316 := Tryz.func225.trans (congrArg some (by kernel_rfl))
 f317 := Tryz.func249.trans (congrArg some (by kernel_rfl))
 f318 := Tryz.func250.trans (congrArg some (by kernel_rfl))
 f319 := Tryz.func251.trans (congrArg some (by kernel_rfl))
 f320 := Tryz.func252.trans (congrArg some (by kernel_rfl))
 f321 := Tryz.func247.trans (congrArg some (by kernel_rfl))
 f322 := Tryz.func248.trans (congrArg some (by kernel_rfl))
 f337 := Tryz.func259.trans (congrArg some (by kernel_rfl))
 f338 := Tryz.func260.trans (congrArg some (by kernel_rfl))
 t0 := Tryz.underlying0
 a0 := Tryz.isAgg0
 z0 := Tryz.sizeOf0
 v0 := Tryz.zeroValue0
 t2 := Tryz.underlying2
 a2 := Tryz.isAgg2
 z2 := Tryz.sizeOf2
 v2 := Tryz.zeroValue2
 t3 := Tryz.underlying3
 a3 := Tryz.isAgg3
 z3 := Tryz.sizeOf3
 v3 := Tryz.zeroValue3
 t4 := Tryz.underlying4
 a4 := Tryz.isAgg4
 z4 := Tryz.sizeOf4
 v4 := Tryz.zeroValue4
 t5 := Tryz.underlying5
 a5 := Tryz.isAgg5
 z5 := Tryz.sizeOf5
 v5 := Tryz.zeroValue5
 t9 := Tryz.underlying9
 a9 := Tryz.isAgg9
 z9 := Tryz.sizeOf9
 v9 := Tryz.zeroValue9
 t20 := Tryz.underlying20
 a20 := Tryz.isAgg20
 z20 := Tryz.sizeOf20
 v20 := Tryz.zeroValue20
 t21 := Tryz.underlying21
 a21 := Tryz.isAgg21
 z21 := Tryz.sizeOf21
 v21 := Tryz.zeroValue21
 t37 := Tryz.underlying176
 a37 := Tryz.isAgg176
 z37 := Tryz.sizeOf176
 v37 := Tryz.zeroValue176
 t46 := Tryz.underlying219
 a46 := Tryz.isAgg219
 z46 := Tryz.sizeOf219
 v46 := Tryz.zeroValue219
 t51 := Tryz.underlying245
 a51 := Tryz.isAgg245
 z51 := Tryz.sizeOf245
 v51 := Tryz.zeroValue245
 t53 := Tryz.underlying247
 a53 := Tryz.isAgg247
 z53 := Tryz.sizeOf247
 v53 := Tryz.zeroValue247
 t75 := Tryz.underlying170
 a75 := Tryz.isAgg170
 z75 := Tryz.sizeOf170
 v75 := Tryz.zeroValue170
 t76 := Tryz.underlying171
 a76 := Tryz.isAgg171
 z76 := Tryz.sizeOf171
 v76 := Tryz.zeroValue171
 t85 := Tryz.underlying224
 a85 := Tryz.isAgg224
 z85 := Tryz.sizeOf224
 v85 := Tryz.zeroValue224
 t127 := Tryz.underlying281
 a127 := Tryz.isAgg281
 z127 := Tryz.sizeOf281
 v127 := Tryz.zeroValue281
 t143 := Tryz.underlying282
 a143 := Tryz.isAgg282
 z143 := Tryz.sizeOf282
 v143 := Tryz.zeroValue282
 t145 := Tryz.underlying284
 a145 := Tryz.isAgg284
 z145 := Tryz.sizeOf284
 v145 := Tryz.zeroValue284
 t167 := Tryz.underlying223
 a167 := Tryz.isAgg223
 z167 := Tryz.sizeOf223
 v167 := Tryz.zeroValue223
 t168 := Tryz.underlying226
 a168 := Tryz.isAgg226
 z168 := Tryz.sizeOf226
 v168 := Tryz.zeroValue226
 t171 := Tryz.underlying263
 a171 := Tryz.isAgg263
 z171 := Tryz.sizeOf263
 v171 := Tryz.zeroValue263
 t173 := Tryz.underlying265
 a173 := Tryz.isAgg265
 z173 := Tryz.sizeOf265
 v173 := Tryz.zeroValue265
 t175 := Tryz.underlying257
 a175 := Tryz.isAgg257
 z175 := Tryz.sizeOf257
 v175 := Tryz.zeroValue257
 t210 := Tryz.underlying261
 a210 := Tryz.isAgg261
 z210 := Tryz.sizeOf261
 v210 := Tryz.zeroValue261
 t212 := Tryz.underlying286
 a212 := Tryz.isAgg286
 z212 := Tryz.sizeOf286
 v212 := Tryz.zeroValue286
 t213 := Tryz.underlying287
 a213 := Tryz.isAgg287
 z213 := Tryz.sizeOf287
 t232 := Tryz.underlying293
 a232 := Tryz.isAgg293
 z232 := Tryz.sizeOf293
 v232 := Tryz.zeroValue293
 t233 := Tryz.underlying294
 a233 := Tryz.isAgg294
 z233 := Tryz.sizeOf294
 v233 := Tryz.zeroValue294
 g15 := by kernel_rfl
 g16 := by kernel_rfl
 g17 := by kernel_rfl
 g18 := by kernel_rfl
 g19 := by kernel_rfl
 t80 := Tryz.underlying295
 a80 := Tryz.isAgg295
 z80 := Tryz.sizeOf295
 v80 := Tryz.zeroValue295
 i0 := by kernel_rfl
 i2 := by kernel_rfl
 i3 := by kernel_rfl
 i4 := by kernel_rfl
 i5 := by kernel_rfl
 i9 := by kernel_rfl
 i20 := by kernel_rfl
 i21 := by kernel_rfl
 i37 := by kernel_rfl
 i46 := by kernel_rfl
 i51 := by kernel_rfl
 i53 := by kernel_rfl
 i75 := by kernel_rfl
 i76 := by kernel_rfl
 i80 := by kernel_rfl
 i85 := by kernel_rfl
 i127 := by kernel_rfl
 i143 := by kernel_rfl
 i145 := by kernel_rfl
 i167 := by kernel_rfl
 i168 := by kernel_rfl
 i171 := by kernel_rfl
 i173 := by kernel_rfl
 i175 := by kernel_rfl
 i210 := by kernel_rfl
 i212 := by kernel_rfl
 i232 := by kernel_rfl
 i233 := by kernel_rfl
 m15 := by kernel_rfl
 m16 := by kernel_rfl
 m17 := by kernel_rfl
 m18 := by kernel_rfl
 m19 := by kernel_rfl
 c0 := by kernel_rfl
 c2 := by kernel_rfl
 c3 := by kernel_rfl
 c4 := by kernel_rfl
 c5 := by kernel_rfl
 c9 := by kernel_rfl
 c20 := by kernel_rfl
 c21 := by kernel_rfl
 c37 := by kernel_rfl
 c46 := by kernel_rfl
 c51 := by kernel_rfl
 c53 := by kernel_rfl
 c75 := by kernel_rfl
 c76 := by kernel_rfl
 c80 := by kernel_rfl
 c85 := by kernel_rfl
 c127 := by kernel_rfl
 c143 := by kernel_rfl
 c145 := by kernel_rfl
 c167 := by kernel_rfl
 c168 := by kernel_rfl
 c171 := by kernel_rfl
 c173 := by kernel_rfl
 c175 := by kernel_rfl
 c210 := by kernel_rfl
 c212 := by kernel_rfl
 c213 := by kernel_rfl
 c232 := by kernel_rfl
 c233 := by kernel_rfl }
def Tryz.idx159_ren : Go.Shelf.Ren := ⟨fun | 219 => 159 | 217 => 193 | 225 => 194 | 224 => 195 | 267 => 196 | 266 => 231 | 314 => 232 | n => n, fun | 9 => 9 | 3 => 3 | 4 => 4 | 5 => 5 | 46 => 219 | 146 => 267 | 51 => 245 | n => n, fun | 1 => 0 | n => n⟩
theorem Tryz.idx159 : Go.Proofs.Lays.n219 Tryz.prog Tryz.idx159_ren := {
 mixed := by kernel_rfl
 f217 := Tryz.func193.trans (congrArg some (by kernel_rfl))
 f219 := Tryz.func159.trans (congrArg some (by kernel_rfl))
 f224 := Tryz.func195.trans (congrArg some (by kernel_rfl))
 f225 := Tryz.func194.trans (congrArg some (by kernel_rfl))
 f266 := Tryz.func231.trans (congrArg some (by kernel_rfl))
 f267 := Tryz.func196.trans (congrArg some (by kernel_rfl))
 f314 := Tryz.func232.trans (congrArg some (by kernel_rfl))
 t3 := Tryz.underlying3
 a3 := Tryz.isAgg3
 z3 := Tryz.sizeOf3
 v3 := Tryz.zeroValue3
 t4 := Tryz.underlying4
 a4 := Tryz.isAgg4
 z4 := Tryz.sizeOf4
 v4 := Tryz.zeroValue4
 t5 := Tryz.underlying5
 a5 := Tryz.isAgg5
 z5 := Tryz.sizeOf5
 v5 := Tryz.zeroValue5
 t9 := Tryz.underlying9
 a9 := Tryz.isAgg9
 z9 := Tryz.sizeOf9
 v9 := Tryz.zeroValue9
 t46 := Tryz.underlying219
 a46 := Tryz.isAgg219
 z46 := Tryz.sizeOf219
 v46 := Tryz.zeroValue219
 t51 := Tryz.underlying245
 a51 := Tryz.isAgg245
 z51 := Tryz.sizeOf245
 v51 := Tryz.zeroValue245
 t146 := Tryz.underlying267
 a146 := Tryz.isAgg267
 z146 := Tryz.sizeOf267
 v146 := Tryz.zeroValue267
 g1 := by kernel_rfl }
def Tryz.idx126_ren : Go.Shelf.Ren := ⟨fun | 143 => 126 | 219 => 159 | 217 => 193 | 225 => 194 | 224 => 195 | 267 => 196 | 266 => 231 | 314 => 232 | n => n, fun | 9 => 9 | 3 => 3 | 4 => 4 | 5 => 5 | 46 => 219 | 146 => 267 | 51 => 245 | n => n, fun | 1 => 0 | n => n⟩
theorem Tryz.idx126 : Go.Proofs.Lays.n143 Tryz.prog Tryz.idx126_ren := {
 mixed := by kernel_rfl
 f143 := Tryz.func126.trans (congrArg some (by kernel_rfl))
 f217 := Tryz.func193.trans (congrArg some (by kernel_rfl))
 f219 := Tryz.func159.trans (congrArg some (by kernel_rfl))
 f224 := Tryz.func195.trans (congrArg some (by kernel_rfl))
 f225 := Tryz.func194.trans (congrArg some (by kernel_rfl))
 f266 := Tryz.func231.trans (congrArg some (by kernel_rfl))
 f267 := Tryz.func196.trans (congrArg some (by kernel_rfl))
 f314 := Tryz.func232.trans (congrArg some (by kernel_rfl))
 t3 := Tryz.underlying3
 a3 := Tryz.isAgg3
 z3 := Tryz.sizeOf3
 v3 := Tryz.zeroValue3
 t4 := Tryz.underlying4
 a4 := Tryz.isAgg4
 z4 := Tryz.sizeOf4
 v4 := Tryz.zeroValue4
 t5 := Tryz.underlying5
 a5 := Tryz.isAgg5
 z5 := Tryz.sizeOf5
 v5 := Tryz.zeroValue5
 t9 := Tryz.underlying9
 a9 := Tryz.isAgg9
 z9 := Tryz.sizeOf9
 v9 := Tryz.zeroValue9
 t46 := Tryz.underlying219
 a46 := Tryz.isAgg219
 z46 := Tryz.sizeOf219
 v46 := Tryz.zeroValue219
 t51 := Tryz.underlying245
 a51 := Tryz.isAgg245
 z51 := Tryz.sizeOf245
 v51 := Tryz.zeroValue245
 t146 := Tryz.underlying267
 a146 := Tryz.isAgg267
 z146 := Tryz.sizeOf267
 v146 := Tryz.zeroValue267
 g1 := by kernel_rfl }
def Tryz.hpre186_ren : Go.Shelf.Ren := ⟨fun | 206 => 186 | n => n, fun | 9 => 9 | 4 => 4 | 3 => 3 | n => n, fun | n => n⟩
theorem Tryz.hpre186 : Go.Proofs.Lays.n206 Tryz.prog Tryz.hpre186_ren := {
 mixed := by kernel_rfl
 f206 := Tryz.func186.trans (congrArg some (by kernel_rfl))
 t3 := Tryz.underlying3
 a3 := Tryz.isAgg3
 z3 := Tryz.sizeOf3
 v3 := Tryz.zeroValue3
 t4 := Tryz.underlying4
 a4 := Tryz.isAgg4
 z4 := Tryz.sizeOf4
 v4 := Tryz.zeroValue4
 t9 := Tryz.underlying9
 a9 := Tryz.isAgg9
 z9 := Tryz.sizeOf9
 v9 := Tryz.zeroValue9 }
end Go.Proofs
namespace Go.Proofs.YtehdemcfeoiecaaGreatDoor
open Go.RowKit Go.Firn Go.Shelf
theorem value_any (a a' : Option Addr) (n c c' : Nat) (f : Nat → ByteArray) (g : Nat → Int) (l : Nat → Int) (w : World) (hS : vS f g n = true) (hr : RdS w a n f g) (hl : RdI w a' 8 l) (hb : ∀ i, i < 8 → 0 ≤ l i ∧ l i ≤ 10) :
  Calls Tryz.prog 43 #[.slice a n c, .slice a' 8 c'] w fun e w' => e = .returned (.int .i64 (vlS l f g n)) ∧ Gr w w' := by
 have HR := Lh hr
 have HL := Lh hl
 have HB := Lh hb
 have VS := Lh (fun i (hi : i < n) => (vS_at hS).2 i hi)
 have n40 := (vS_at hS).1
 have VB := Lh (fun k (hk : k ≤ n) => vlS_bd hb hS k hk)
 have VN := Lh (fun k => show vlS l f g (k + 1) = vlS l f g k + prd l (f k) (g k) (f k).size from rfl)
 clear hr hl hb hS
 go_enter Tryz.func43, Tryz.ntmps43
 go_wp2
 go_loopw [5, 12] (fun so si wr => ∃ k : Nat, k ≤ n ∧ so = .int .i64 (vlS l f g k) ∧ si = .int .i64 k ∧ Hid (Gr w wr)) (fun _ si _ => n - (intOf si).toNat)
 case atStart => exact ⟨0, Nat.zero_le _, rfl, rfl, Gr.refl w⟩
 case round =>
  obtain ⟨k, hk, rfl, rfl, hG⟩ := hrel
  by_cases hlt : k < n
  ·have i1 : (k : Int) < (n : Int) := by omega
   obtain ⟨b, o, rfl, hc⟩ := (HR.out.gr hG.out).at hlt
   obtain ⟨k0, k1⟩ := hc k hlt
   obtain ⟨t1, t2, t3⟩ := VS.out k hlt
   have GB := Lh (hG.out.alloc (.cells #[.string (f k), .int .i64 (g k)] 58))
   obtain ⟨z0, z1⟩ := box2 wr (f k) (g k) 58
   have LI := Lh (fun i (hi : i < (f k).size) => (isTk_at t1).2 i hi)
   have SZ := (isTk_at t1).1
   clear hc
   have BD := Lh (fun q (hq : q ≤ (f k).size) => prd_top (m := g k) HB.out t1 ⟨t2, t3⟩ hq)
   have vb := VB.out k (by omega)
   have VK := Lh (VN.out k)
   generalize f k = s at *
   generalize g k = m at *
   generalize hv : vlS l f g k = v at *
   clear hv t1 t2 t3
   go_wp2_with fail
   generalize hW : wr.alloc (.cells #[.string s, .int .i64 m] 58) = W1 at *
   generalize hX : wr.heap.size = bx at *
   clear hW hX k0 k1
   go_loopw [8, 21] (fun sn sq wx => ∃ q : Nat, q ≤ s.size ∧ sn = .int .i64 (prd l s m q) ∧ sq = .int .i64 q ∧ wx = W1) (fun _ sq _ => s.size - (intOf sq).toNat)
   case atStart => exact ⟨0, Nat.zero_le _, rfl, rfl, rfl⟩
   case round =>
    obtain ⟨q, hq, rfl, rfl, hw⟩ := hrel
    subst hw
    by_cases hlq : q < s.size
    ·have i2 : (q : Int) < (s.size : Int) := by omega
     have l1 := bt_get hlq
     have l2 := LI.out q hlq
     have b1 := BD.out q (by omega)
     have b2 := BD.out (q + 1) hlq
     have E := Lh (show prd l s m (q + 1) = prd l s m q * l (bt s q - 97) from rfl)
     rw [E.out] at b2
     generalize bt s q = x at *
     obtain ⟨y, hy⟩ : ∃ y, x = y + 97 := ⟨x - 97, by omega⟩
     have hy8 : y < 8 := by omega
     have e1 : IntKind.u8.wrap ((x : Int) - 97) = (y : Int) := by rw [IntKind.wrap_u8']; omega
     have y8 : (y : Int) < 8 := by omega
     obtain ⟨bn, on, rfl, hn⟩ := (HL.out.gr GB.out).at (show 0 < 8 by omega)
     have cn := hn y hy8
     rw [show x - 97 = y by omega] at b2 E
     generalize l y = ly at *
     generalize prd l s m q = pq at *
     have e2 : IntKind.i64.wrap (pq * ly) = pq * ly := IntWalk.i64_in _ (by omega)
     have e3 : wrap64 (pq * ly) = pq * ly := IntWalk.wrap64_in _ (by omega)
     clear b1 b2 hn hy l2
     go_wp2_with fail
     go_roundw
     case rel => exact ⟨q + 1, hlq, by rw [← E.out], by go_num, by trivial⟩
     case measure => simp [intOf]; omega
    obtain rfl : q = s.size := by omega
    have i2 : ¬ (s.size : Int) < (s.size : Int) := by omega
    have b1 := BD.out s.size (Nat.le_refl _)
    have VK2 := Lh VK.out
    clear VK
    generalize prd l s m s.size = pq at *
    have e2 : IntKind.i64.wrap (v + pq) = v + pq := IntWalk.i64_in _ (by omega)
    have e3 : wrap64 (v + pq) = v + pq := IntWalk.wrap64_in _ (by omega)
    clear b1 vb
    go_wp2_with fail
    go_roundw
    case rel => exact ⟨k + 1, hlt, by rw [← VK2.out], by go_num, GB⟩
    case measure => simp [intOf]; omega
  obtain rfl : k = n := by omega
  have i1 : ¬ (k : Int) < (k : Int) := by omega
  go_wp2_with fail
  go_ret
  exact ⟨rfl, hG.out⟩
theorem within1_any (x B : Int) (bx : Nat) (w : World) (hb : w.cell? ⟨bx, 0, none⟩ = some (.int .i64 B)) : Calls Tryz.prog 76 #[.int .i64 x, .pointer (some ⟨bx, 0, none⟩)] w fun e w' => e = .returned (.bool (!btw 0 x B)) ∧ w' = w := by
 have C := Lh (fun w' => between_any 0 x B w')
 go_enter Tryz.func76, Tryz.ntmps76
 go_wp2_with (go_at_call 56; (with_reducible refine (C.out _).mono ?_); rintro e w1 ⟨rfl, rfl⟩)
 go_ret
 exact ⟨rfl, rfl⟩
theorem within_any (a : Option Addr) (n c : Nat) (l : Nat → Int) (B : Int) (w : World) (hn : n ≤ 9223372036854775807) (hr : RdI w a n l) :
  Calls Tryz.prog 41 #[.slice a n c, .int .i64 B] w (RetB (nmB l n B) w) := by
 have G0 := Lh ((Gr.refl w).alloc (.cells #[.int .i64 B] 3))
 have hmf : ∀ (fn : Fn) (first cap : Array Value) (w : World), (Instr.makeFunc fn first cap).run Tryz.prog w = .ok (.func fn first cap) w := fun _ _ _ _ => rfl
 by_cases h8 : n = 8
 ·subst h8
  obtain ⟨b, o, rfl, hc⟩ := hr.at (show 0 < 8 by omega)
  have hb := cell_new1 w (.int .i64 B) 3
  have CC := Lh (show Calls Tryz.prog 75 #[.slice (some ⟨b, o, none⟩) 8 c, .func (.func 76) #[] #[.pointer (some ⟨w.heap.size, 0, none⟩)]] (w.alloc (.cells #[.int .i64 B] 3)) fun e w' => e = .returned (.bool ((((List.range 8).map l).take 8).any fun x => !btw 0 x B)) ∧ ∃ q, w' = (w.alloc (.cells #[.int .i64 B] 3)).drewN q from AnyE.slices_ContainsFunc Tryz.cont8 (Value.int .i64) (fun x => !btw 0 x B) 76 #[.pointer (some ⟨w.heap.size, 0, none⟩)] (enters_of Tryz.func76 (by kernel_rfl) rfl) b o 8 c ((List.range 8).map l) (w.alloc (.cells #[.int .i64 B] 3))
   (fun W x k => by
    refine (within1_any x B w.heap.size W (Gr.cell k hb)).mono ?_
    rintro e w' ⟨rfl, rfl⟩
    exact ⟨rfl, 0, rfl⟩) (by simp) (by omega) (fun j hj => by
    have hj' : j < 8 := by simpa using hj
    rw [G0.out.cell (hc j hj')]
    simp [hj']))
  have E := Lh (show (!((((List.range 8).map l).take 8).any fun x => !btw 0 x B)) = nmB l 8 B by
   unfold nmB nmK
   rw [List.take_of_length_le (by simp)]
   rw [Bool.eq_iff_iff]
   simp)
  clear hc hr
  generalize ((((List.range 8).map l).take 8).any fun x => !btw 0 x B) = v at *
  generalize nmB l 8 B = nm at *
  go_enter Tryz.func41, Tryz.ntmps41
  go_wp2_with (go_at_call 75; (with_reducible refine CC.out.mono ?_); rintro e w1 ⟨rfl, q, rfl⟩)
  go_ret
  exact ⟨by rw [← E.out]; rfl, G0.out.drewN _⟩
 have E := Lh (show nmB l n B = false by unfold nmB; rw [decide_eq_false h8]; simp)
 have z1 : ((n : Int) == 8) = false := by simp; omega
 clear h8
 go_enter Tryz.func41, Tryz.ntmps41
 go_wp2_with fail
 go_ret
 rw [E.out]
 exact ⟨rfl, G0.out⟩
def RetNE (t E : Int) (w : World) (e : Ending) (w' : World) : Prop := e = .returned (.tuple #[.int .i64 t, .int .i64 E]) ∧ Gr w w'
def VlN (f : Nat → ByteArray) (g : Nat → Int) (n : Nat) (l : Nat → Int) (m : Nat) : Int := if vS f g n = true then (if nmB l m 10 = true then vlS l f g n else 0) else 0
def VlE (f : Nat → ByteArray) (g : Nat → Int) (n : Nat) (l : Nat → Int) (m : Nat) : Int := if vS f g n = true then (if nmB l m 10 = true then 0 else 2) else 92
theorem Value_any (a a' : Option Addr) (n c m c' : Nat) (f : Nat → ByteArray) (g : Nat → Int) (l : Nat → Int) (w : World) (hn : n ≤ 9223372036854775807) (hz : ∀ i, i < n → (f i).size ≤ 9223372036854775807) (hm : m ≤ 9223372036854775807) (hr : RdS w a n f g) (hl : RdI w a' m l) :
  Calls Tryz.prog 32 #[.slice a n c, .slice a' m c'] w (RetNE (VlN f g n l m) (VlE f g n l m) w) := by
 have C1 := Lh (fun w1 (k : Gr w w1) => ValidSum_any a n c f g w1 hn hz (hr.gr k))
 have C2 := Lh (fun w1 (k : Gr w w1) => within_any a' m c' l 10 w1 hm (hl.gr k))
 cases h1 : vS f g n with
 | false =>
  have e1 : VlN f g n l m = 0 := by unfold VlN; rw [h1]; rfl
  have e2 : VlE f g n l m = 92 := by unfold VlE; rw [h1]; rfl
  rw [e1, e2]
  rw [h1] at C1
  clear e1 e2 h1 hr hl hz
  go_enter Tryz.func32, Tryz.ntmps32
  go_wp2_with (go_at_call 68; (with_reducible refine (C1.out _ (Gr.refl _)).mono ?_); rintro e w1 ⟨rfl, g1⟩; have G1 := Lh g1; clear g1)
  exact bodyPost_ret (v := .tuple #[.int .i64 0, .int .i64 92]) (by simp [results, Tryz.results32, go_sem]) rfl ⟨rfl, G1.out⟩
 | true =>
  cases h2 : nmB l m 10 with
  | false =>
   have e1 : VlN f g n l m = 0 := by unfold VlN; rw [h1, h2]; rfl
   have e2 : VlE f g n l m = 2 := by unfold VlE; rw [h1, h2]; rfl
   rw [e1, e2]
   rw [h1] at C1
   rw [h2] at C2
   clear e1 e2 h1 h2 hr hl hz
   go_enter Tryz.func32, Tryz.ntmps32
   go_wp2_with (first
    | (go_at_call 68; (with_reducible refine (C1.out _ (Gr.refl _)).mono ?_); rintro e w1 ⟨rfl, g1⟩; have G1 := Lh g1; clear g1)
    | (go_at_call 41; (with_reducible refine (C2.out _ G1.out).mono ?_); rintro e w2 ⟨rfl, g2⟩; have G2 := Lh (G1.out.trans g2); clear g2))
   exact bodyPost_ret (v := .tuple #[.int .i64 0, .int .i64 2]) (by simp [results, Tryz.results32, go_sem]) rfl ⟨rfl, G2.out⟩
  | true =>
   obtain ⟨rfl, hb⟩ := nmB_at h2
   have e1 : VlN f g n l 8 = vlS l f g n := by unfold VlN; rw [h1, h2]; rfl
   have e2 : VlE f g n l 8 = 0 := by unfold VlE; rw [h1, h2]; rfl
   have C3 := Lh (fun w1 (k : Gr w w1) => value_any a a' n c c' f g l w1 h1 (hr.gr k) (hl.gr k) hb)
   rw [e1, e2]
   rw [h1] at C1
   rw [h2] at C2
   clear e1 e2 h1 h2 hr hl hz hb
   generalize vlS l f g n = v at *
   go_enter Tryz.func32, Tryz.ntmps32
   go_wp2_with (first
    | (go_at_call 68; (with_reducible refine (C1.out _ (Gr.refl _)).mono ?_); rintro e w1 ⟨rfl, g1⟩; have G1 := Lh g1; clear g1)
    | (go_at_call 41; (with_reducible refine (C2.out _ G1.out).mono ?_); rintro e w2 ⟨rfl, g2⟩; have G2 := Lh (G1.out.trans g2); clear g2)
    | (go_at_call 43; (with_reducible refine (C3.out _ G2.out).mono ?_); rintro e w3 ⟨rfl, g3⟩; have G3 := Lh (G2.out.trans g3); clear g3))
   exact bodyPost_ret (v := .tuple #[.int .i64 v, .int .i64 0]) (by simp [results, Tryz.results32, go_sem]) rfl ⟨rfl, G3.out⟩
def bA (k : Key) : ByteArray := ⟨k.toArray⟩
theorem bA_list (k : Key) : (bA k).data.toList = k := rfl
theorem bA_size (k : Key) : (bA k).size = k.length := by simp [bA, ByteArray.size]
def RetT (s : ByteArray) (w : World) (e : Ending) (w' : World) : Prop := e = .returned (.string s) ∧ Gr w w'
def Pow10 (w : World) : Prop := Lib.TabIs Tryz.prog w "internal/strconv.uint64pow10" .u64 Lib.pow10Tab
theorem Pow10.gr {w w' : World} (h : Pow10 w) (g : Gr w w') : Pow10 w' := Lib.tabBelow_of_tabIs h w' g
def RetW (L : List ByteArray) (w : World) (e : Ending) (w' : World) : Prop := ∃ g c, e = .returned (.slice (some ⟨g, 0, none⟩) L.length c) ∧ (∀ i x, L[i]? = some x → w'.cell? ⟨g, i, none⟩ = some (.string x)) ∧ Gr w w'
end Go.Proofs.YtehdemcfeoiecaaGreatDoor
namespace Go.Proofs.YtehdemcfeoiecaaGreatDoor
open Go.RowKit Go.Firn Go.Shelf Go.Maps Go.WideMaps
attribute [local go_sem] Oper.semAt_some
theorem wide_fn (f : FuncId) : Fence.wide.fn f = True := rfl
attribute [local simp] wide_fn
theorem idx_is (c : UInt8) : ∀ R : Key, (Lib.indexByte R c = -1 ∧ c ∉ R) ∨ ∃ o : Nat, Lib.indexByte R c = o ∧ o < R.length ∧ c ∉ R.take o ∧ R[o]? = some c
 | [] => .inl ⟨rfl, by simp⟩
 | b :: l => by
  unfold Lib.indexByte
  by_cases hb : (b == c) = true
  ·right
   refine ⟨0, by rw [if_pos hb]; rfl, by simp, by simp, by simp at hb; simp [hb]⟩
  rw [if_neg hb]
  have hne : b ≠ c := by simpa using hb
  rcases idx_is c l with ⟨h1, h2⟩ | ⟨o, h1, h2, h3, h4⟩
  ·left
   rw [h1]
   exact ⟨rfl, by simp [h2, hne.symm]⟩
  right
  refine ⟨o + 1, ?_, by simp; omega, ?_, by simpa using h4⟩
  ·rw [h1]
   have : ((o : Int) == -1) = false := by simp
   rw [this]
   simp
  rw [List.take_succ_cons]
  simp [h3, hne.symm]
theorem split_len (c : UInt8) : ∀ K : Key, (splitK c K).length ≤ K.length + 1
 | [] => by simp [splitK]
 | b :: r => by
  have := split_len c r
  unfold splitK
  split
  ·simp; omega
  obtain ⟨h, t, e⟩ := splitK_cons c r
  rw [e] at this ⊢
  simp at this ⊢
  omega
theorem split_none {c : UInt8} {R : Key} (h : c ∉ R) : splitK c R = [R] := splitK_no h
theorem split_some {c : UInt8} {R : Key} {o : Nat} (h1 : c ∉ R.take o) (h2 : R[o]? = some c) : splitK c R = R.take o :: splitK c (R.drop (o + 1)) := by
 obtain ⟨hl, e⟩ := List.getElem?_eq_some_iff.1 h2
 have ee : R = R.take o ++ c :: R.drop (o + 1) := by
  conv => lhs; rw [← List.take_append_drop o R]
  rw [List.drop_eq_getElem_cons hl, e]
 conv => lhs; rw [ee]
 exact splitK_app _ h1
theorem ext_key' (R : Key) (f i : Nat) : (bA R).extract f i = bA ((R.drop f).take (i - f)) := by
 refine ByteArray.ext ?_
 rw [ByteArray.data_extract]
 apply Array.toList_inj.1
 rw [Array.toList_extract, List.extract_eq_take_drop]
 rfl
def encK (x : Key) : Array Value := #[.string (bA x)]
def Kb (K : Nat → Prop) (W W' : World) : Prop := ∀ (p : Addr) (v : Value), K p.block → W.cell? p = some v → W'.cell? p = some v ∧ W'.frozen? p = W.frozen? p
theorem Kb.trans {K : Nat → Prop} {A B C : World} (h : Kb K A B) (k : Kb K B C) : Kb K A C := fun p v hp e => by
 obtain ⟨h1, h2⟩ := h p v hp e
 obtain ⟨k1, k2⟩ := k p v hp h1
 exact ⟨k1, k2.trans h2⟩
theorem Kb.putObj {K : Nat → Prop} (W : World) (l : Nat) (o o' : Obj) (h : W.heap[l]? = some o) (hc : o.isCells = false) : Kb K W (W.putObj l o') := fun _ _ _ e =>
 ⟨cell_kept e (grownBy_putObj' W l o') (fun r er => by cases er; exact ⟨o, h, hc⟩), frozen_kept e (grownBy_putObj' W l o') (fun r er => by cases er; exact ⟨o, h, hc⟩)⟩
theorem Kb.gr {K : Nat → Prop} {W W' : World} (g : Gr W W') : Kb K W W' := fun _ _ _ e => ⟨g.cell e, Below.frozen g (World.block_lt_of_cell? W _ e)⟩
def WbS (bs : Nat) (A B : World) : Prop := ∃ (t : ByteArray) (u : Value), A.cell? ⟨bs, 0, none⟩ = some u ∧ B = A.setCell ⟨bs, 0, none⟩ (.string t)
theorem WbS.keeps {bs : Nat} {A B : World} (h : WbS bs A B) : ∀ (k : Nat) (o : Obj), A.heap[k]? = some o → o.isCells = false → B.heap[k]? = some o := by
 obtain ⟨t, u, _, rfl⟩ := h
 intro k o hk ho
 exact (KeepsOthers.setCell A ⟨bs, 0, none⟩ (.string t)).same k o hk ho
def boxLen (b : Nat) (w : World) : Nat := match w.cell? ⟨b, 0, none⟩ with | some (.string t) => t.size | _ => 0
theorem boxLen_of {b : Nat} {w : World} {t : ByteArray} (h : w.cell? ⟨b, 0, none⟩ = some (.string t)) : boxLen b w = t.size := by
 unfold boxLen
 rw [h]
theorem grows' {w w' : World} (g : Gr w w') : w.grownBy w' none := ⟨g.os, g.tape, g.output, Gr.size g, fun k hk _ => Below.block g k hk⟩
theorem splitSeq1_seq (m : Nat) (hm : 1 ≤ m) (bs bp bv : Nat) (h1 : bs ≠ bp) (h2 : bs ≠ bv) (c : UInt8) (s : ByteArray) (w : World) (hs : s.size ≤ 1000000) (hb1 : w.cell? ⟨bp, 0, none⟩ = some (.string ⟨#[c]⟩)) (hb2 : w.cell? ⟨bs, 0, none⟩ = some (.string s)) (hf2 : w.frozen? ⟨bs, 0, none⟩ = false) (hb3 : w.cell? ⟨bv, 0, none⟩ = some (.int .i64 0)) :
  SeqW Fence.wide m Tryz.prog 151 #[.pointer (some ⟨bp, 0, none⟩), .pointer (some ⟨bs, 0, none⟩), .pointer (some ⟨bv, 0, none⟩)] encK (Kb fun k => k = bs ∨ k = bp ∨ k = bv) (WbS bs) (fun x => x.length ≤ 1000000) (fun xs => xs = splitK c s.data.toList) (fun pre => ∃ t, splitK c s.data.toList = pre ++ t) (s.size + 1) w := fun l J Jx W hW hJ hJw hJx hY h0 => by
 have B1 : W.cell? ⟨bp, 0, none⟩ = some (.string ⟨#[c]⟩) := by rw [Below.cell hW (p := ⟨bp, 0, none⟩) (World.block_lt_of_cell? w _ hb1)]; exact hb1
 have B2 : W.cell? ⟨bs, 0, none⟩ = some (.string s) := by rw [Below.cell hW (p := ⟨bs, 0, none⟩) (World.block_lt_of_cell? w _ hb2)]; exact hb2
 have B3 : W.cell? ⟨bv, 0, none⟩ = some (.int .i64 0) := by rw [Below.cell hW (p := ⟨bv, 0, none⟩) (World.block_lt_of_cell? w _ hb3)]; exact hb3
 have F2 : W.frozen? ⟨bs, 0, none⟩ = false := by rw [Below.frozen hW (World.block_lt_of_cell? w _ hb2)]; exact hf2
 have HB := Lh (And.intro B1 (And.intro B2 (And.intro B3 F2)))
 have YY := Lh hY
 have JJ := Lh hJ
 have JW := Lh hJw
 have H0 := Lh h0
 have HNe := Lh (And.intro h1 h2)
 have HS := Lh hs
 have HL := Lh (show (splitK c s.data.toList).length ≤ s.size + 1 by rw [← size_key]; exact split_len c _)
 have C94 := Lh (fun (R : Key) wx => show Calls Tryz.prog 126 #[.string (bA R), .string ⟨#[c]⟩] wx fun e w' => e = .returned (.int .i64 (Lib.indexByte R c)) ∧ wx = w' from Calls.mono (Any.strings_Index_one Tryz.idx126 (bA R) c wx) fun e w' ⟨h1, h2⟩ => ⟨h1, h2.symm⟩)
 clear hb1 hb2 hb3 hf2 hY hJ hJw hJx h0 hW B2 B3 F2 h1 h2 hs
 refine callsIn_of_wp Tryz.func151 rfl trivial ?_ rfl
 simp only [Tryz.ntmps151, List.size_toArray, List.length_cons, List.length_nil, Nat.reduceAdd, Nat.reduceSub, Array.replicate_succ, Array.replicate_zero, List.push_toArray, List.append_toArray, List.nil_append, List.cons_append]
 gi_wp2
 gi_loopw [7] (fun _ wr => ∃ (pre : List Key) (R : Key), Hid (splitK c s.data.toList = pre ++ splitK c R) ∧ Hid (R.length ≤ 1000000) ∧ Hid (J pre wr) ∧ Hid (wr.cell? ⟨bp, 0, none⟩ = some (.string ⟨#[c]⟩) ∧ wr.cell? ⟨bs, 0, none⟩ = some (.string (bA R)) ∧ wr.cell? ⟨bv, 0, none⟩ = some (.int .i64 0) ∧ wr.frozen? ⟨bs, 0, none⟩ = false)) (fun _ wr => boxLen bs wr)
 case atStart => exact ⟨[], s.data.toList, Lh rfl, Lh (by rw [size_key]; exact HS.out), H0, HB⟩
 case round =>
  obtain ⟨pre, R, HP, HR, HJ, HC⟩ := hrel
  obtain ⟨c1, c2, c3, c4⟩ := HC.out
  have C := Lh (C94.out R wr)
  have HPl := Lh (show pre.length < s.size + 1 by
   have := HL.out
   rw [HP.out, List.length_append] at this
   have h2 : 0 < (splitK c R).length := List.length_pos_iff.2 (splitK_ne c R)
   have := HS.out
   omega)
  clear C94 H0
  rcases idx_is c R with ⟨e1, e2⟩ | ⟨o, e1, e2, e3, e4⟩
  ·rw [e1] at C
   have HE := Lh (show splitK c s.data.toList = pre ++ [R] by rw [HP.out, split_none e2])
   obtain ⟨fn, tmps, assign, body, hy, hR⟩ := YY.out pre R wr HJ.out HR.out HPl.out
   have hy' : (Instr.yield l #[.string (bA R)]).run Tryz.prog wr = .ok (.round l fn tmps assign body) wr := hy
   have HRR := Lh hR
   clear e1 e2 hy hR
   gi_wp2_with (gi_at_call 126; (with_reducible refine (callsIn_wide.2 C.out).mono ?_); rintro e w6 ⟨rfl, rfl⟩)
   refine HRR.out.mono ?_
   rintro e W' (⟨rfl, hJ', hk'⟩ | ⟨rfl, hX'⟩)
   ·have J7 := Lh hJ'
    clear hJ' hk'
    gi_wp2
    go_end0
    exact ⟨⟨_, rfl⟩, .inl ⟨_, HE.out.symm, J7.out⟩⟩
   have X7 := Lh hX'
   clear hX'
   gi_wp2
   go_end0
   exact ⟨⟨_, rfl⟩, .inr ⟨_, ⟨[], by rw [HE.out, List.append_nil]⟩, X7.out⟩⟩
  rw [e1] at C
  have HE := Lh (show splitK c s.data.toList = (pre ++ [R.take o]) ++ splitK c (R.drop (o + 1)) by rw [HP.out, split_some e3 e4]; simp)
  obtain ⟨fn, tmps, assign, body, hy, hR⟩ := YY.out pre (R.take o) wr HJ.out (by rw [List.length_take]; have := HR.out; omega) HPl.out
  have hy' : (Instr.yield l #[.string (bA (R.take o))]).run Tryz.prog wr = .ok (.round l fn tmps assign body) wr := hy
  have HRR := Lh hR
  have hx1 : (bA R).extract 0 o = bA (R.take o) := by rw [ext_key']; simp
  have hx2 : (bA R).extract (o + 1) (bA R).size = bA (R.drop (o + 1)) := by
   rw [ext_key', bA_size, List.take_of_length_le (by rw [List.length_drop]; exact Nat.le_refl _)]
  have o0 : ¬ (o : Int) < 0 := by omega
  have o1 : (o : Int) ≤ ((bA R).size : Int) := by rw [bA_size]; omega
  have o2 : (o : Int) + 1 ≤ ((bA R).size : Int) := by rw [bA_size]; omega
  have v1 : IntKind.i64.wrap (o : Int) = (o : Int) := IntWalk.i64_in _ (by have := HR.out; omega)
  have v2 : IntKind.i64.wrap ((o : Int) + 1) = ((o + 1 : Nat) : Int) := by rw [IntWalk.i64_in _ (by have := HR.out; omega)]; omega
  have HO := Lh e2
  clear e1 e2 e3 e4 hy hR
  gi_wp2_with (gi_at_call 126; (with_reducible refine (callsIn_wide.2 C.out).mono ?_); rintro e w6 ⟨rfl, rfl⟩)
  refine HRR.out.mono ?_
  rintro e W' (⟨rfl, hJ', hk'⟩ | ⟨rfl, hX'⟩)
  ·have J7 := Lh hJ'
   obtain ⟨k1, _⟩ := hk' ⟨bp, 0, none⟩ _ (.inr (.inl rfl)) c1
   obtain ⟨k2, k4⟩ := hk' ⟨bs, 0, none⟩ _ (.inl rfl) c2
   obtain ⟨k3, _⟩ := hk' ⟨bv, 0, none⟩ _ (.inr (.inr rfl)) c3
   rw [c4] at k4
   have HCn := Lh (show (W'.setCell ⟨bs, 0, none⟩ (.string (bA (R.drop (o + 1))))).cell? ⟨bp, 0, none⟩ = some (.string ⟨#[c]⟩) ∧ (W'.setCell ⟨bs, 0, none⟩ (.string (bA (R.drop (o + 1))))).cell? ⟨bs, 0, none⟩ = some (.string (bA (R.drop (o + 1)))) ∧ (W'.setCell ⟨bs, 0, none⟩ (.string (bA (R.drop (o + 1))))).cell? ⟨bv, 0, none⟩ = some (.int .i64 0) ∧ (W'.setCell ⟨bs, 0, none⟩ (.string (bA (R.drop (o + 1))))).frozen? ⟨bs, 0, none⟩ = false from
    ⟨by rw [World.cell?_setCell_other _ _ _ _ (fun e => HNe.out.1 (congrArg Addr.block e))]; exact k1, cell_near k2 _, by rw [World.cell?_setCell_other _ _ _ _ (fun e => HNe.out.2 (congrArg Addr.block e))]; exact k3, by rw [World.frozen?_setCell]; exact k4⟩)
   have J8 := Lh (JW.out _ W' _ J7.out ⟨bA (R.drop (o + 1)), _, k2, rfl⟩)
   have HM1 := Lh (boxLen_of (b := bs) c2)
   have HM2 := Lh (boxLen_of (b := bs) HCn.out.2.1)
   clear hJ' hk' c1 c2 c3 c4 hy'
   gi_wp2
   go_roundw
   case rel => exact ⟨_, _, HE, Lh (by rw [List.length_drop]; have := HR.out; omega), J8, HCn⟩
   case measure =>
    rw [HM1.out, HM2.out, bA_size, bA_size, List.length_drop]
    have := HO.out
    omega
  have X7 := Lh hX'
  clear hX'
  gi_wp2
  refine bodyPost_ret (results_none rfl _ _ _) rfl ?_
  exact ⟨⟨_, rfl⟩, .inr ⟨_, ⟨_, HE.out⟩, X7.out⟩⟩
theorem SplitSeq_any (s p : ByteArray) (w : World) : Calls Tryz.prog 86 #[.string s, .string p] w fun e w' =>
  e = .returned (.func (.func 151) #[] #[.pointer (some ⟨w.heap.size + 1, 0, none⟩), .pointer (some ⟨w.heap.size, 0, none⟩), .pointer (some ⟨w.heap.size + 2, 0, none⟩)]) ∧
  w' = ((w.alloc (.cells #[.string s] 9)).alloc (.cells #[.string p] 9)).alloc (.cells #[.int .i64 0] 3) := by
 have hmf : ∀ (fn : Fn) (first cap : Array Value) (w : World), (Instr.makeFunc fn first cap).run Tryz.prog w = .ok (.func fn first cap) w := fun _ _ _ _ => rfl
 go_enter Tryz.func86, Tryz.ntmps86
 go_wp2
 go_ret
 exact ⟨rfl, rfl⟩
def Errs (w : World) : Prop := ∀ g, g = 3 ∨ g = 4 → ∃ ev, w.cell? ⟨g, 0, none⟩ = some ev ∧ (ev = .nilIface ∨ ∃ te pe, ev = .iface te pe)
theorem Errs.gr {w w' : World} (h : Errs w) (g : Gr w w') : Errs w' := fun k hk => by
 obtain ⟨ev, h1, h2⟩ := h k hk
 exact ⟨ev, g.cell h1, h2⟩
theorem atoi_yes (d : Key) (v : Int) (h : Lib.atoiAll d = .ok v) (hd : d.length ≤ 1000000) (w : World) : Calls Tryz.prog 123 #[.string (bA d)] w fun e w' => e = .returned (.tuple #[.int .i64 v, .nilIface]) ∧ Gr w w' := by
 have hh := Any.strconv_Atoi_ok Tryz.atoi123 (bA d) (by rw [bA_size]; omega) v (by rw [bA_list]; exact h) w
 refine Calls.mono hh ?_
 rintro e w' ⟨rfl, (rfl | ⟨t, rfl⟩)⟩
 ·exact ⟨rfl, Gr.refl _⟩
 exact ⟨rfl, Lib.bytesWorld_below _ _ _⟩
theorem atoi_not (d : Key) (h : ∀ v, Lib.atoiAll d ≠ .ok v) (hd : d.length ≤ 1000000) (w : World) (he : Errs w) : Calls Tryz.prog 123 #[.string (bA d)] w fun e w' => (∃ n N, e = .returned (.tuple #[.int .i64 n, .iface 226 (.pointer (some ⟨N, 0, none⟩))])) ∧ Gr w w' := by
 rcases ha : Lib.atoiAll d with v | _ | _
 ·exact absurd ha (h v)
 ·obtain ⟨ev, h1, h2⟩ := he 3 (.inl rfl)
  have hh := Any.strconv_Atoi_syntax Tryz.atoi123 (bA d) (by rw [bA_size]; omega) (by rw [bA_list]; exact ha) ev w h1 h2
  refine Calls.mono hh ?_
  rintro e w' ⟨N, rfl, _, _, g⟩
  exact ⟨⟨_, _, rfl⟩, g⟩
 obtain ⟨ev, h1, h2⟩ := he 4 (.inr rfl)
 have hh := Any.strconv_Atoi_range Tryz.atoi123 (bA d) (by rw [bA_size]; omega) (by rw [bA_list]; exact ha) ev w h1 h2
 refine Calls.mono hh ?_
 rintro e w' ⟨N, rfl, _, _, g⟩
 exact ⟨⟨_, _, rfl⟩, g⟩
end Go.Proofs.YtehdemcfeoiecaaGreatDoor
namespace Go.Proofs.YtehdemcfeoiecaaGreatDoor
open Go.Firn Go.Firn.Tb
def resQ {D : Type} (R : Rg D) (φ : SL → D) (right : Bool) (Ts : List (Int × Tbl SL)) (q : Key) : Except Int (Tbl D × Int) :=
 if vTabs Ts = true then match qry (wsOf Ts) q with
  | none => .error 91
  | some x => if right = true then (match ansQ R (tabsOf φ Ts) x.1 with
   | none => .error 4
   | some T => .ok (T, x.2)) else .error 2
 else .error 90
def G1 (d : SL × Int) : Prop := GS d.1 ∧ d.2 = 0
end Go.Proofs.YtehdemcfeoiecaaGreatDoor
namespace Go.Firn.Tb
open Go.Proofs.YtehdemcfeoiecaaGreatDoor
def W14 (p : List Int) : Prop := ∀ x ∈ p, 1 ≤ x ∧ x ≤ 4
theorem W14.nil : W14 [] := fun x hx => by cases hx
theorem W14.at {p : List Int} (h : W14 p) {i : Nat} (hi : i < p.length) : 1 ≤ p.getD i 0 ∧ p.getD i 0 ≤ 4 := by
 rw [List.getD_eq_getElem?_getD, List.getElem?_eq_getElem hi]
 exact h _ (List.getElem_mem hi)
theorem W14.snoc {p : List Int} (h : W14 p) (k : Nat) {x : Int} (hx : 1 ≤ x ∧ x ≤ 4) : W14 (p.take k ++ [x]) := fun y hy => by
 rcases List.mem_append.1 hy with hy | hy
 ·exact h y (List.mem_of_mem_take hy)
 simp only [List.mem_singleton] at hy
 subst hy
 exact hx
theorem wid_bd {ws p q : List Int} {w : Wd} (hw : widW ws w p = some q) (h0 : W14 ws) (hp : W14 p) : W14 q := by
 cases w with
 | put n =>
  unfold widW at hw; simp only [] at hw
  split at hw
  ·rename_i h
   cases hw
   have := hp.snoc p.length (h0.at h)
   rwa [List.take_length] at this
  cases hw
 | orr =>
  unfold widW at hw; simp only [] at hw
  split at hw
  ·cases hw
  split at hw
  ·cases hw; exact hp.snoc _ (hp.at (by omega))
  cases hw
 | byy =>
  unfold widW at hw; simp only [] at hw
  split at hw
  ·cases hw
  split at hw
  ·rename_i h1 h2
   cases hw
   have k1 := hp.at (i := p.length - 2) (by omega)
   have k2 := hp.at (i := p.length - 1) (by omega)
   exact hp.snoc _ (by omega)
  cases hw
 | drop n =>
  unfold widW at hw; simp only [] at hw
  split at hw
  ·cases hw
  split at hw
  ·rename_i h1 h2
   cases hw
   have k2 := hp.at (i := p.length - 1) (by omega)
   exact hp.snoc _ (by omega)
  cases hw
 | pick n m =>
  unfold widW at hw; simp only [] at hw
  split at hw
  ·cases hw
  split at hw
  ·cases hw; exact hp.snoc _ (hp.at (by omega))
  cases hw
 | same n m =>
  unfold widW at hw; simp only [] at hw
  split at hw
  ·cases hw
  split at hw
  ·cases hw; exact hp.snoc _ (hp.at (by omega))
  cases hw
theorem wid_len {ws p q : List Int} {w : Wd} (hw : widW ws w p = some q) : q.length ≤ p.length + 1 := by
 cases w with
 | put n =>
  unfold widW at hw; simp only [] at hw
  split at hw
  ·cases hw; simp
  cases hw
 | orr =>
  unfold widW at hw; simp only [] at hw
  split at hw
  ·cases hw
  split at hw
  ·cases hw; simp
  cases hw
 | byy =>
  unfold widW at hw; simp only [] at hw
  split at hw
  ·cases hw
  split at hw
  ·cases hw; simp
  cases hw
 | drop n =>
  unfold widW at hw; simp only [] at hw
  split at hw
  ·cases hw
  split at hw
  ·cases hw; simp
  cases hw
 | pick n m =>
  unfold widW at hw; simp only [] at hw
  split at hw
  ·cases hw
  split at hw
  ·cases hw; simp
  cases hw
 | same n m =>
  unfold widW at hw; simp only [] at hw
  split at hw
  ·cases hw
  split at hw
  ·cases hw; simp
  cases hw
theorem planQ_bd {ws : List Int} (h0 : W14 ws) : ∀ {a : List Key} {p : List Int} {x : List Wd × List Int}, planQ ws a p = some x → W14 p → W14 x.2 ∧ x.2.length ≤ p.length + a.length
 | [], p, x, h, hp => by simp [planQ] at h; subst h; exact ⟨hp, by simp⟩
 | k :: r, p, x, h, hp => by
  rw [planQ_cons] at h
  cases hw : wdOf k with
  | none => rw [hw] at h; cases h
  | some w =>
   rw [hw] at h
   simp only [] at h
   cases hq : widW ws w p with
   | none => rw [hq] at h; cases h
   | some q =>
    rw [hq] at h
    simp only [] at h
    cases e : planQ ws r q with
    | none => rw [e] at h; cases h
    | some y =>
     rw [e] at h
     simp only [Option.map_some, Option.some.injEq] at h
     subst h
     have ih := planQ_bd h0 e (wid_bd hq h0 hp)
     have := wid_len hq
     refine ⟨ih.1, ?_⟩
     simp only [List.length_cons]
     omega
theorem ws_14 {Ts : List (Int × Tbl SL)} (h : vTabs Ts = true) : W14 (wsOf Ts) ∧ (wsOf Ts).length ≤ 4 := by
 obtain ⟨h1, h2, h3⟩ := vTabs_iff.1 h
 refine ⟨fun x hx => ?_, by simpa [wsOf] using h3⟩
 obtain ⟨y, hy, rfl⟩ := List.mem_map.1 hx
 exact (vTab_iff.1 (h1 y hy)).2.1
end Go.Firn.Tb
namespace Go.Proofs.YtehdemcfeoiecaaGreatDoor
open Go.RowKit Go.Firn Go.Firn.Tb
def dgK : Key → Int
 | [d] => if isDg d = true then (dgv d : Int) else -1
 | _ => -1
theorem bt_one (d : UInt8) : bt (bA [d]) 0 = d.toNat := rfl
theorem digit_any (x : Key) (w : World) (hx : x.length ≤ 1000000) : Calls Tryz.prog 121 #[.string (bA x)] w fun e w' => e = .returned (.int .i64 (dgK x)) ∧ w' = w := by
 by_cases h1 : x.length = 1
 ·obtain ⟨d, rfl⟩ : ∃ d, x = [d] := List.length_eq_one_iff.1 h1
  have s1 : (bA [d]).size = 1 := rfl
  have hi : ∀ w, (Instr.index 9 (.string (bA [d])) (.int .i64 0)).run Tryz.prog w = .ok (.int .u8 (d.toNat : Nat)) w := fun w => by
   have := bt_look (P := Tryz.prog) (t := 9) Tryz.underlying9 (s := bA [d]) (i := 0) (by rw [s1]; omega) w
   rw [bt_one] at this
   exact this
  have hd := d.toNat_lt
  generalize hs : bA [d] = s at *
  by_cases h2 : d.toNat < 48
  ·have E : dgK [d] = -1 := by unfold dgK; simp only []; rw [if_neg (by unfold isDg; simp; omega)]
   have k1 : (d.toNat : Int) < 48 := by omega
   have k2 : decide ((d.toNat : Int) < 48) = true := decide_eq_true k1
   rw [E]
   clear h1 hs E hx
   go_enter Tryz.func121, Tryz.ntmps121
   go_wp2_with fail
   go_ret
   exact ⟨rfl, rfl⟩
  have k1 : ¬ (d.toNat : Int) < 48 := by omega
  have k2 : decide ((d.toNat : Int) < 48) = false := decide_eq_false k1
  by_cases h3 : 57 < d.toNat
  ·have E : dgK [d] = -1 := by unfold dgK; simp only []; rw [if_neg (by unfold isDg; simp; omega)]
   have k3 : 57 < (d.toNat : Int) := by omega
   rw [E]
   clear h1 hs E hx
   go_enter Tryz.func121, Tryz.ntmps121
   go_wp2_with fail
   go_ret
   exact ⟨rfl, rfl⟩
  have E : dgK [d] = ((d.toNat - 48 : Nat) : Int) := by unfold dgK dgv; simp only []; rw [if_pos (by unfold isDg; simp; omega)]
  have k3 : ¬ 57 < (d.toNat : Int) := by omega
  have w2 : IntKind.u8.wrap ((d.toNat : Int) - 48) = ((d.toNat - 48 : Nat) : Int) := by rw [IntKind.wrap_u8]; omega
  have w3 : IntKind.i64.wrap ((d.toNat - 48 : Nat) : Int) = ((d.toNat - 48 : Nat) : Int) := IntWalk.i64_in _ (by omega)
  have hq : d.toNat - 48 ≤ 9 := by omega
  rw [E]
  clear h1 hs E hx h2 h3 hd
  generalize d.toNat - 48 = q at *
  generalize d.toNat = dn at *
  go_enter Tryz.func121, Tryz.ntmps121
  go_wp2_with fail
  go_ret
  exact ⟨rfl, rfl⟩
 have E : dgK x = -1 := by
  unfold dgK
  split
  ·exact absurd rfl h1
  rfl
 have z1 : (((bA x).size : Int) == 1) = false := by rw [bA_size]; simp; omega
 have z2 : (((bA x).size : Int) != 1) = true := by rw [bA_size]; simp; omega
 rw [E]
 clear h1 E hx
 generalize bA x = s at *
 go_enter Tryz.func121, Tryz.ntmps121
 go_wp2_with fail
 go_ret
 exact ⟨rfl, rfl⟩
theorem prefix_is (x K : Key) : Lib.hasPrefix x K = decide (x.take K.length = K) := by
 rw [Bool.eq_iff_iff, decide_eq_true_eq]
 unfold Lib.hasPrefix
 rw [List.isPrefixOf_iff_prefix]
 constructor
 ·rintro ⟨t, rfl⟩; simp
 intro h
 have := List.take_append_drop K.length x
 rw [h] at this
 exact ⟨x.drop K.length, this⟩
theorem cutp_any (x K : Key) (w : World) : Calls Tryz.prog 120 #[.string (bA x), .string (bA K)] w fun e w' => e = .returned (.tuple #[.string (bA (if x.take K.length = K then x.drop K.length else x)), .bool (decide (x.take K.length = K))]) ∧ Gr w w' := by
 have C := Lh (show ∀ w, Calls Tryz.prog 186 #[.string (bA x), .string (bA K)] w fun e w' => e = .returned (.bool (decide (x.take K.length = K))) ∧ w' = w from fun w => by
  have := Any.stringslite_HasPrefix Tryz.hpre186 (bA x) (bA K) w
  rw [bA_list, bA_list, prefix_is] at this
  exact this)
 have D := Lh (show ∀ w, Calls Tryz.prog 153 #[.string (bA x), .string (bA K)] w fun e w' => e = .returned (.tuple #[.string (bA (if x.take K.length = K then x.drop K.length else x)), .bool (decide (x.take K.length = K))]) ∧ Gr w w' from fun w => by
  by_cases h : x.take K.length = K
  ·rw [if_pos h]
   rw [decide_eq_true h] at C ⊢
   have hl : K.length ≤ x.length := by have := congrArg List.length h; rw [List.length_take] at this; omega
   have i1 : ((bA K).size : Int) ≤ ((bA x).size : Int) := by rw [bA_size, bA_size]; omega
   have HX := Lh (show (bA x).extract (bA K).size (bA x).size = bA (x.drop K.length) by
    rw [ext_key', bA_size, bA_size, List.take_of_length_le (by rw [List.length_drop]; exact Nat.le_refl _)])
   clear h hl
   generalize bA (x.drop K.length) = u at *
   generalize bA x = s at *
   generalize bA K = p at *
   go_enter Tryz.func153, Tryz.ntmps153
   go_wp2_with (go_at_call 186; (with_reducible refine (C.out _).mono ?_); rintro e w6 ⟨rfl, rfl⟩)
   refine bodyPost_ret (v := .tuple #[.string (s.extract p.size s.size), .bool true]) (by simp [results, Tryz.results153, go_sem]) rfl ?_
   exact ⟨by rw [HX.out], Gr.refl _⟩
  rw [if_neg h]
  rw [decide_eq_false h] at C ⊢
  clear h
  generalize bA x = s at *
  generalize bA K = p at *
  go_enter Tryz.func153, Tryz.ntmps153
  go_wp2_with (go_at_call 186; (with_reducible refine (C.out _).mono ?_); rintro e w6 ⟨rfl, rfl⟩)
  refine bodyPost_ret (v := .tuple #[.string s, .bool false]) (by simp [results, Tryz.results153, go_sem]) rfl ?_
  exact ⟨rfl, Gr.refl _⟩)
 clear C
 generalize bA (if x.take K.length = K then x.drop K.length else x) = u at *
 generalize decide (x.take K.length = K) = v at *
 generalize bA x = s at *
 generalize bA K = p at *
 go_enter Tryz.func120, Tryz.ntmps120
 go_wp2_with (go_at_call 153; (with_reducible refine (D.out _).mono ?_); rintro e w6 ⟨rfl, g6⟩; have G6 := Lh g6; clear g6)
 refine bodyPost_ret (v := .tuple #[.string u, .bool v]) (by simp [results, Tryz.results120, go_sem]) rfl ?_
 exact ⟨rfl, G6.out⟩
def cutA (p : Key) : Key := p.takeWhile (· != 61)
def cutB (p : Key) : Key := (p.dropWhile (· != 61)).drop 1
theorem ne_eq' {b : UInt8} {c : UInt8} (h : b ≠ c) : (b != c) = true := by simpa using h
theorem cut_word {d e : Key} (hd : (61 : UInt8) ∉ d) : cutA (d ++ 61 :: e) = d ∧ cutB (d ++ 61 :: e) = e := by
 have a : ∀ b ∈ d, (b != (61 : UInt8)) = true := fun b hb => ne_eq' fun k => hd (by rw [← k]; exact hb)
 unfold cutA cutB
 rw [List.takeWhile_append_of_pos a, List.dropWhile_append_of_pos a]
 simp
theorem cut_none {x : Key} (h : (61 : UInt8) ∉ x) : cutA x = x ∧ cutB x = [] := by
 have a : ∀ b ∈ x, (b != (61 : UInt8)) = true := fun b hb => ne_eq' fun k => h (by rw [← k]; exact hb)
 have e1 : x.takeWhile (· != 61) = x := by
  have := List.takeWhile_append_of_pos (l₂ := []) a
  simpa using this
 have e2 : x.dropWhile (· != 61) = [] := by
  have := List.dropWhile_append_of_pos (l₂ := []) a
  simpa using this
 unfold cutA cutB
 rw [e1, e2]
 exact ⟨rfl, rfl⟩
theorem cut_some {x : Key} {o : Nat} (h1 : (61 : UInt8) ∉ x.take o) (h2 : x[o]? = some 61) : cutA x = x.take o ∧ cutB x = x.drop (o + 1) := by
 obtain ⟨hl, e⟩ := List.getElem?_eq_some_iff.1 h2
 have ee : x = x.take o ++ 61 :: x.drop (o + 1) := by
  conv => lhs; rw [← List.take_append_drop o x]
  rw [List.drop_eq_getElem_cons hl, e]
 have := cut_word (d := x.take o) (e := x.drop (o + 1)) h1
 rwa [← ee] at this
theorem cut_le (x : Key) : (cutA x).length ≤ x.length ∧ (cutB x).length ≤ x.length := by
 unfold cutA cutB
 have h1 := (List.takeWhile_sublist (l := x) (· != 61)).length_le
 have h2 := (List.dropWhile_sublist (l := x) (· != 61)).length_le
 rw [List.length_drop]
 omega
def RetCut (x : Key) (w : World) (e : Ending) (w' : World) : Prop := ∃ f, e = .returned (.tuple #[.string (bA (cutA x)), .string (bA (cutB x)), .bool f]) ∧ Gr w w'
theorem cut154 (x : Key) (hx : x.length ≤ 1000000) (w : World) : Calls Tryz.prog 154 #[.string (bA x), .string ⟨#[61]⟩] w (RetCut x w) := by
 have C := Lh (show Calls Tryz.prog 159 #[.string (bA x), .string ⟨#[61]⟩] w fun e w' => e = .returned (.int .i64 (Lib.indexByte x 61)) ∧ w = w' from Calls.mono (Any.stringslite_Index_one Tryz.idx159 (bA x) 61 w) fun e w' ⟨h1, h2⟩ => ⟨h1, h2.symm⟩)
 rcases idx_is 61 x with ⟨e1, e2⟩ | ⟨o, e1, e2, e3, e4⟩
 ·rw [e1] at C
  obtain ⟨c1, c2⟩ := cut_none e2
  have HC := Lh (And.intro c1 c2)
  clear e1 e2 c1 c2
  go_enter Tryz.func154, Tryz.ntmps154
  go_wp2_with (go_at_call 159; (with_reducible refine C.out.mono ?_); rintro e w6 ⟨rfl, rfl⟩)
  refine bodyPost_ret (v := .tuple #[.string (bA x), .string ⟨#[]⟩, .bool false]) (by simp [results, Tryz.results154, go_sem]) rfl ?_
  exact ⟨false, by rw [HC.out.1, HC.out.2]; rfl, Gr.refl _⟩
 rw [e1] at C
 obtain ⟨c1, c2⟩ := cut_some e3 e4
 have HC := Lh (And.intro c1 c2)
 have s1 : o < (bA x).size := by rw [bA_size]; exact e2
 have s2 : (bA x).size ≤ 1000000 := by rw [bA_size]; exact hx
 have i0 : (0 : Int) ≤ (o : Int) := by omega
 have i1 : (o : Int) ≤ ((bA x).size : Int) := by omega
 have i2 : (o : Int) + 1 ≤ ((bA x).size : Int) := by omega
 have w2 : IntKind.i64.wrap ((o : Int) + 1) = (o : Int) + 1 := IntWalk.i64_in _ (by omega)
 have i3 : (0 : Int) ≤ (o : Int) + 1 := by omega
 have i4 : ((o : Int) + 1).toNat = o + 1 := by omega
 have EX := Lh (ext_key' x)
 have EZ := Lh (bA_size x)
 clear e1 e2 e3 e4 c1 c2
 go_enter Tryz.func154, Tryz.ntmps154
 go_wp2_with (go_at_call 159; (with_reducible refine C.out.mono ?_); rintro e w6 ⟨rfl, rfl⟩)
 go_region_held3 (fun _ => True) (trivial) (fail)
 go_wp2_with fail
 refine bodyPost_ret (v := .tuple #[.string ((bA x).extract 0 o), .string ((bA x).extract (o + 1) (bA x).size), .bool true]) (by simp [results, Tryz.results154, go_sem]) rfl ?_
 refine ⟨true, ?_, (Gr.refl _).drew⟩
 rw [EX.out, EX.out, HC.out.1, HC.out.2, EZ.out, List.take_of_length_le (l := x.drop (o + 1)) (by rw [List.length_drop]; exact Nat.le_refl _)]
 rfl
theorem Cut_any (x : Key) (hx : x.length ≤ 1000000) (w : World) : Calls Tryz.prog 122 #[.string (bA x), .string ⟨#[61]⟩] w (RetCut x w) := by
 have C := Lh (cut154 x hx w)
 go_enter Tryz.func122, Tryz.ntmps122
 go_wp2_with (go_at_call 154; (with_reducible refine C.out.mono ?_); rintro e w6 ⟨f, rfl, g6⟩; have G6 := Lh g6; clear g6)
 refine bodyPost_ret (v := .tuple #[.string (bA (cutA x)), .string (bA (cutB x)), .bool f]) (by simp [results, Tryz.results122, go_sem]) rfl ?_
 exact ⟨f, rfl, G6.out⟩
theorem itoa_any (n : Int) (h0 : -9223372036854775808 ≤ n) (h1 : n ≤ 9223372036854775807) (w : World) (hT : Pow10 w) : Calls Tryz.prog 124 #[.int .i64 n] w (RetT (bA (Lib.itoa n)) w) := by
 refine (Any.strconv_Itoa Tryz.itoa124 n (by omega) (by omega) w hT).mono ?_
 rintro e w' ⟨rfl, k, os, rfl⟩
 exact ⟨rfl, Lib.below_grow _ _ (Nat.le_refl _) _ _⟩
end Go.Proofs.YtehdemcfeoiecaaGreatDoor
namespace Go.Firn
open Go.RowKit Go.Deep Go.ChangeShapes Go.WideShapes Go.ChangeAt Go.Firn.Tb Go.Proofs.YtehdemcfeoiecaaGreatDoor
def SzS (L : SL) : Prop := ∀ y ∈ L, y.1.length ≤ 9223372036854775807 ∧ (Lit.int .i64 y.2).wf = true
def SzW (T : Tbl SL) : Prop := ∀ r ∈ T, (∀ x ∈ r.1, (Lit.int .i64 x).wf = true) ∧ SzS r.2
def SzWs (Ts : List (Int × Tbl SL)) : Prop := ∀ x ∈ Ts, (Lit.int .i64 x.1).wf = true ∧ SzW x.2
end Go.Firn
