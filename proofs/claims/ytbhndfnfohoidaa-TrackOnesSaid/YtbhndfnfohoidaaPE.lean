/- A row of weights in a block: what is read and written; what 'solve' computes. -/
import Derived.Test.YtbhndfnfohoidaaPP
import Derived.Test.YtbhndfnfohoidaaQB
namespace Go.Firn
open Go.RowKit

def upd (f : Nat → Int) (i : Nat) (x : Int) (j : Nat) : Int := if j = i then x else f j
/-- A row that may be written. -/
def RowW (w : World) (b o n : Nat) (f : Nat → Int) : Prop := ∀ j, j < n → w.cell? ⟨b, o + j, none⟩ = some (.int .i64 (f j)) ∧ w.frozen? ⟨b, o + j, none⟩ = false
theorem RowW.gr {w w' : World} {b o n : Nat} {f : Nat → Int} (h : RowW w b o n f) (g : Gr w w') : RowW w' b o n f := fun j hj =>
  ⟨g.cell (h j hj).1, (Below.frozen g (World.block_lt_of_cell? w _ (h j hj).1)).trans (h j hj).2⟩
theorem RowW.set {w : World} {b o n : Nat} {f : Nat → Int} (h : RowW w b o n f) (i : Nat) (x : Int) : RowW (w.setCell ⟨b, o + i, none⟩ (.int .i64 x)) b o n (upd f i x) := fun j hj => by
  refine ⟨?_, by simpa using (h j hj).2⟩
  unfold upd
  by_cases e : j = i
  · subst e
    rw [if_pos rfl]
    exact World.cell?_setCell_same' _ _ _ (by rw [(h j hj).1]; rfl)
  · rw [if_neg e, World.cell?_setCell_other _ _ _ _ (by simp)]
    exact (h j hj).1
theorem RowW.wr {w w' : World} {b b' o n : Nat} {f : Nat → Int} (h : RowW w b o n f) (g : Wr b' w w') (hne : b ≠ b') : RowW w' b o n f := fun j hj =>
  ⟨g.cell (h j hj).1 hne, (g.frozen (h j hj).1 hne).trans (h j hj).2⟩
theorem RowW.congr {w : World} {b o n : Nat} {f g : Nat → Int} (h : RowW w b o n f) (e : ∀ j, j < n → f j = g j) : RowW w b o n g := fun j hj => by rw [← e j hj]; exact h j hj
theorem Wr.of_gr {bb : Nat} {w w' : World} (g : Gr w w') : Wr bb w w' := ⟨g.os, g.tape, g.output, Gr.size g, fun k hk _ => Below.block g k hk⟩
theorem RdM.wr {w w' : World} {b o n b' : Nat} {f g : Nat → Int} (h : RdM w (some ⟨b, o, none⟩) n f g) (k : Wr b' w w') (hne : b ≠ b') : RdM w' (some ⟨b, o, none⟩) n f g := by
  rcases h with h | ⟨b2, o2, ha, hc⟩
  · exact .inl h
  · cases ha
    exact .inr ⟨b, o, rfl, fun i hi => ⟨k.cell (hc i hi).1 hne, k.cell (hc i hi).2 hne⟩⟩
end Go.Firn

namespace Go.Proofs.Ytbhndfnfohoidaa
open Go.Firn

def sol0 (f : Nat → Int) (i k : Nat) : Nat → Int := upd (upd f i 0) k 0
def solS (n : Nat) (f : Nat → Int) (i k : Nat) : Int := sm (sol0 f i k) n
def solM (n : Nat) (X f : Nat → Int) (i k : Nat) : Int := sm (fun j => sol0 f i k j * X j) n
def solV (n : Nat) (X f : Nat → Int) (i k : Nat) : Int := (solS n f i k * X k - solM n X f i k).tdiv (X i - X k)
def solU (n : Nat) (X f : Nat → Int) (i k : Nat) : Int := -solS n f i k - solV n X f i k
def solF (n : Nat) (X f : Nat → Int) (i k : Nat) : Nat → Int := upd (upd (sol0 f i k) i (solV n X f i k)) k (solU n X f i k)
def solB (n : Nat) (X f : Nat → Int) (m : Int) (i k : Nat) : Bool := decide (ab (solV n X f i k) ≤ m) && decide (ab (solU n X f i k) ≤ m)

theorem sm_bd {c : Int} {f : Nat → Int} : ∀ {n : Nat}, (∀ j, j < n → -c ≤ f j ∧ f j ≤ c) → -(n * c) ≤ sm f n ∧ sm f n ≤ n * c := by
  intro n
  induction n with
  | zero => intro _; unfold sm; simp
  | succ n ih =>
    intro h
    have a := ih (fun j hj => h j (by omega))
    have b := h n (by omega)
    unfold sm
    have e : ((n + 1 : Nat) : Int) * c = n * c + c := by push_cast; rw [Int.add_mul, Int.one_mul]
    rw [e]
    omega
theorem sol0_bd {n : Nat} {f : Nat → Int} {i k : Nat} (h : ∀ j, j < n → -200 ≤ f j ∧ f j ≤ 200) : ∀ j, j < n → -200 ≤ sol0 f i k j ∧ sol0 f i k j ≤ 200 := fun j hj => by
  have := h j hj
  unfold sol0 upd
  split
  · omega
  · split <;> omega
theorem sol0M_bd {n : Nat} {X f : Nat → Int} {i k : Nat} (hX : ∀ j, j < n → -100 ≤ X j ∧ X j ≤ 100) (h : ∀ j, j < n → -200 ≤ f j ∧ f j ≤ 200) : ∀ j, j < n → -20000 ≤ sol0 f i k j * X j ∧ sol0 f i k j * X j ≤ 20000 := fun j hj => by
  have a := sol0_bd (i := i) (k := k) h j hj
  have b := hX j hj
  generalize sol0 f i k j = x at *
  generalize X j = y at *
  have h1 := Int.mul_nonneg (show 0 ≤ 200 - x by omega) (show 0 ≤ 100 - y by omega)
  have h2 := Int.mul_nonneg (show 0 ≤ 200 - x by omega) (show 0 ≤ 100 + y by omega)
  have h3 := Int.mul_nonneg (show 0 ≤ 200 + x by omega) (show 0 ≤ 100 - y by omega)
  have h4 := Int.mul_nonneg (show 0 ≤ 200 + x by omega) (show 0 ≤ 100 + y by omega)
  have e1 : (200 - x) * (100 - y) = 20000 - 200 * y - 100 * x + x * y := by grind
  have e2 : (200 - x) * (100 + y) = 20000 + 200 * y - 100 * x - x * y := by grind
  have e3 : (200 + x) * (100 - y) = 20000 - 200 * y + 100 * x - x * y := by grind
  have e4 : (200 + x) * (100 + y) = 20000 + 200 * y + 100 * x + x * y := by grind
  rw [e1] at h1; rw [e2] at h2; rw [e3] at h3; rw [e4] at h4
  omega
theorem tdiv_bd {x y c : Int} (h : -c ≤ x ∧ x ≤ c) : -c ≤ x.tdiv y ∧ x.tdiv y ≤ c := by
  have h1 : (x.tdiv y).natAbs ≤ x.natAbs := by rw [Int.natAbs_tdiv]; exact Nat.div_le_self _ _
  omega
/-- All that 'solve' computes is small. -/
theorem sol_bd {n : Nat} {X f : Nat → Int} {i k : Nat} (hn : n ≤ 12) (hk : k < n) (hX : ∀ j, j < n → -100 ≤ X j ∧ X j ≤ 100) (h : ∀ j, j < n → -200 ≤ f j ∧ f j ≤ 200) :
    (-2400 ≤ solS n f i k ∧ solS n f i k ≤ 2400) ∧ (-240000 ≤ solM n X f i k ∧ solM n X f i k ≤ 240000) ∧ (-240000 ≤ solS n f i k * X k ∧ solS n f i k * X k ≤ 240000) ∧ (-480000 ≤ solV n X f i k ∧ solV n X f i k ≤ 480000) := by
  have a := sm_bd (sol0_bd (i := i) (k := k) h)
  have b := sm_bd (sol0M_bd (i := i) (k := k) hX h)
  have a' : -2400 ≤ solS n f i k ∧ solS n f i k ≤ 2400 := by unfold solS; omega
  have b' : -240000 ≤ solM n X f i k ∧ solM n X f i k ≤ 240000 := by unfold solM; omega
  have c : -240000 ≤ solS n f i k * X k ∧ solS n f i k * X k ≤ 240000 := by
    have hk := hX k hk
    generalize solS n f i k = x at *
    generalize X k = y at *
    have h1 := Int.mul_nonneg (show 0 ≤ 2400 - x by omega) (show 0 ≤ 100 - y by omega)
    have h2 := Int.mul_nonneg (show 0 ≤ 2400 - x by omega) (show 0 ≤ 100 + y by omega)
    have h3 := Int.mul_nonneg (show 0 ≤ 2400 + x by omega) (show 0 ≤ 100 - y by omega)
    have h4 := Int.mul_nonneg (show 0 ≤ 2400 + x by omega) (show 0 ≤ 100 + y by omega)
    have e1 : (2400 - x) * (100 - y) = 240000 - 2400 * y - 100 * x + x * y := by grind
    have e2 : (2400 - x) * (100 + y) = 240000 + 2400 * y - 100 * x - x * y := by grind
    have e3 : (2400 + x) * (100 - y) = 240000 - 2400 * y + 100 * x - x * y := by grind
    have e4 : (2400 + x) * (100 + y) = 240000 + 2400 * y + 100 * x + x * y := by grind
    rw [e1] at h1; rw [e2] at h2; rw [e3] at h3; rw [e4] at h4
    omega
  exact ⟨a', b', c, tdiv_bd (c := 480000) (by omega)⟩
end Go.Proofs.Ytbhndfnfohoidaa
