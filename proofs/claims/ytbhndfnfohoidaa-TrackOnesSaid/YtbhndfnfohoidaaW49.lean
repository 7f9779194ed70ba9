/- Points on one line: the plain law; a slice of int8. -/
import Derived.Test.YtbhndfnfohoidaaPS
import Derived.Test.YtbhndfnfohoidaaW29
import Derived.Test.YtbhndfnfohoidaaW39
namespace Go.Firn
open Go.RowKit
/-- A slice of int8. -/
def RdI8 (w : World) (a : Option Addr) (n : Nat) (f : Nat → Int) : Prop :=
  n = 0 ∨ ∃ b o, a = some ⟨b, o, none⟩ ∧ ∀ i, i < n → w.cell? ⟨b, o + i, none⟩ = some (.int .i8 (f i))
theorem RdI8.gr {w w' : World} {a : Option Addr} {n : Nat} {f : Nat → Int} (h : RdI8 w a n f) (g : Gr w w') : RdI8 w' a n f := by
  rcases h with h | ⟨b, o, ha, hc⟩
  · exact .inl h
  · exact .inr ⟨b, o, ha, fun i hi => g.cell (hc i hi)⟩
theorem RdI8.at {w : World} {a : Option Addr} {n : Nat} {f : Nat → Int} (h : RdI8 w a n f) {k : Nat} (hk : k < n) : ∃ b o, a = some ⟨b, o, none⟩ ∧ ∀ i, i < n → w.cell? ⟨b, o + i, none⟩ = some (.int .i8 (f i)) := by
  rcases h with h | h
  · omega
  · exact h
def IsRow8 (w : World) (a : Option Addr) (len cap : Nat) (zs : List Int) : Prop :=
  (a = none ∧ len = 0 ∧ cap = 0 ∧ zs = []) ∨
  ∃ x, a = some x ∧ len ≤ cap ∧ cap ≤ maxLen ∧ zs.length = cap ∧ (∀ i, i < zs.length → w.cell? (x.add i) = some (.int .i8 (zs.getD i 0))) ∧ ∀ n ∈ zs, (Lit.int .i8 n).wf = true
theorem IsRow8.rd {w : World} {a : Option Addr} {len cap : Nat} {zs : List Int} (h : IsRow8 w a len cap zs) :
    len ≤ 9223372036854775807 ∧ RdI8 w a len (fun i => zs.getD i 0) ∧ ∀ i, i < len → -128 ≤ zs.getD i 0 ∧ zs.getD i 0 ≤ 127 := by
  rcases h with ⟨rfl, rfl, rfl, rfl⟩ | ⟨x, rfl, hl, hm, hz, hc, hw⟩
  · exact ⟨by omega, .inl rfl, fun i h => by omega⟩
  · unfold maxLen at hm
    refine ⟨by omega, ?_, fun i hi => ?_⟩
    · by_cases h0 : len = 0
      · exact .inl h0
      · have hs : x.spot = none := by
          have := World.cell?_spot (hc 0 (by omega))
          simpa [Addr.add] using this
        obtain ⟨b, o, s⟩ := x
        simp only at hs
        subst hs
        refine .inr ⟨b, o, rfl, fun i hi => ?_⟩
        have := hc i (by omega)
        rw [add_flat rfl] at this
        exact this
    · have hm : zs.getD i 0 ∈ zs := by rw [List.getD_eq_getElem?_getD, List.getElem?_eq_getElem (show i < zs.length by omega)]; exact List.getElem_mem _
      have := hw _ hm
      simp [Lit.wf, IntKind.min, IntKind.max, IntKind.signed, IntKind.bits] at this
      rw [← List.getD_eq_getElem?_getD] at this
      omega
end Go.Firn
namespace Go.Proofs.Ytbhndfnfohoidaa
open Go.RowKit Go.Firn

/-- A point on the line through two, some steps from the first. -/
def stX (x1 x2 : Int) (s : Int) : Int := x1 + s * (x2 - x1)
/-- The two points and those in range of the first k steps. -/
def ones (x1 y1 x2 y2 : Int) (S : Nat → Int) : Nat → List (Int × Int)
  | 0 => [(x1, y1), (x2, y2)]
  | k + 1 => if inPB (stX x1 x2 (S k)) (stX y1 y2 (S k)) then ones x1 y1 x2 y2 S k ++ [(stX x1 x2 (S k), stX y1 y2 (S k))] else ones x1 y1 x2 y2 S k
theorem ones_head (x1 y1 x2 y2 : Int) (S : Nat → Int) : ∀ k, ∃ l, ones x1 y1 x2 y2 S k = (x1, y1) :: (x2, y2) :: l ∧ l.length ≤ k := by
  intro k
  induction k with
  | zero => exact ⟨[], rfl, Nat.le_refl _⟩
  | succ k ih =>
    obtain ⟨l, h, hl⟩ := ih
    unfold ones
    rw [h]
    split
    · exact ⟨l ++ [(stX x1 x2 (S k), stX y1 y2 (S k))], rfl, by rw [List.length_append]; simp; omega⟩
    · exact ⟨l, rfl, by omega⟩
theorem ones_mem {x1 y1 x2 y2 : Int} {S : Nat → Int} (h1 : inPB x1 y1 = true) (h2 : inPB x2 y2 = true) : ∀ k, ∀ p ∈ ones x1 y1 x2 y2 S k, InP p.1 p.2 ∧ ∃ s, p = (stX x1 x2 s, stX y1 y2 s) := by
  intro k
  induction k with
  | zero =>
    intro p hp
    simp [ones] at hp
    rcases hp with rfl | rfl
    · exact ⟨inPB_iff.1 h1, 0, by unfold stX; simp⟩
    · exact ⟨inPB_iff.1 h2, 1, by unfold stX; ext <;> simp <;> omega⟩
  | succ k ih =>
    intro p hp
    unfold ones at hp
    split at hp
    · rename_i hb
      rcases List.mem_append.1 hp with hp | hp
      · exact ih p hp
      · obtain rfl := List.mem_singleton.1 hp
        exact ⟨inPB_iff.1 hb, _, rfl⟩
    · exact ih p hp

theorem red_zero {d : Int} (hd : 0 < d) : rN 0 d = 0 ∧ rD 0 d = 1 := by
  have := red_whole (k := 0) hd
  rwa [Int.zero_mul] at this
/-- All points on one line: what the program tells. -/
theorem ones_law {n : Nat} {X Y : Nat → Int} (V : VP n X Y) {A B D : Int} (hD : 0 < D) (h : ∀ j, j < n → rs (X j) (Y j) A B D = 0) {q : Nat × Nat} (hq : bst n X Y (prs X n) = some q) :
    (pN n X Y q = 0 ∧ pE n X Y q = 1) ∧ (witS X Y (wits n X)).N = 0 ∧ (witS X Y (wits n X)).D = 1 := by
  have s0 : sumA X Y A B D n = 0 := by
    rw [sumA_sm]
    have : sm (fun i => ab (rs (X i) (Y i) A B D)) n = sm (fun _ => 0) n := sm_congr fun j hj => by rw [h j hj]; decide
    rw [this]
    have := sm_bd (c := 0) (f := fun _ => 0) (n := n) fun j _ => by omega
    omega
  have m0 : maxA X Y A B D n = 0 := by have := max_le_sum (X := X) (Y := Y) (A := A) (B := B) (D := D) n; omega
  obtain ⟨_, p1, _⟩ := pr_in V.ok (prs_pr (X := X) (Nat.le_refl n) q (bst_mem hq))
  refine ⟨?_, ?_⟩
  · have b := best_all V hq A B D
    rw [s0, Int.zero_mul] at b
    have c : 0 ≤ pS n X Y q := (max_le_sum (X := X) (Y := Y) (A := pA X Y q) (B := pB X Y q) (D := pD X Y q) n).1
    have : pS n X Y q = 0 := by
      rcases Int.lt_or_le 0 (pS n X Y q) with hlt | hle
      · have := Int.mul_pos hlt hD
        omega
      · omega
    unfold pN pE
    rw [this]
    exact red_zero p1
  · obtain ⟨v, e, v0, he, e1, e2, _, hb, _⟩ := told_any V
    have b := hb A B D hD
    rw [m0, Int.zero_mul] at b
    have : v = 0 := by
      rcases Int.lt_or_le 0 v with hlt | hle
      · have := Int.mul_pos hlt hD
        omega
      · omega
    rw [e1, e2, this]
    exact red_zero he

/-- The points of TrackOnes are valid and lie on the line. -/
theorem ones_ok {x1 y1 x2 y2 : Int} {S : Nat → Int} {k : Nat} (h1 : inPB x1 y1 = true) (h2 : inPB x2 y2 = true) (hx : x1 ≠ x2) (hk : k ≤ 10) :
    VP (ones x1 y1 x2 y2 S k).length (px (ones x1 y1 x2 y2 S k)) (py (ones x1 y1 x2 y2 S k)) ∧ InL (thA x1 y1 x2 y2) (thB x1 y1 x2 y2) (thD x1 y1 x2 y2) ∧ 0 < thD x1 y1 x2 y2 ∧
      ∀ j, j < (ones x1 y1 x2 y2 S k).length → rs (px (ones x1 y1 x2 y2 S k) j) (py (ones x1 y1 x2 y2 S k) j) (thA x1 y1 x2 y2) (thB x1 y1 x2 y2) (thD x1 y1 x2 y2) = 0 := by
  obtain ⟨l, hl, hk'⟩ := ones_head x1 y1 x2 y2 S k
  have mem := ones_mem (S := S) h1 h2 k
  have lat : ∀ j, j < (ones x1 y1 x2 y2 S k).length → (ones x1 y1 x2 y2 S k).getD j (0, 0) ∈ ones x1 y1 x2 y2 S k := fun j hj => by
    rw [List.getD_eq_getElem?_getD, List.getElem?_eq_getElem hj]; exact List.getElem_mem hj
  have len : (ones x1 y1 x2 y2 S k).length = l.length + 2 := by rw [hl]; rfl
  have a0 : px (ones x1 y1 x2 y2 S k) 0 = x1 ∧ py (ones x1 y1 x2 y2 S k) 0 = y1 := by rw [hl]; exact ⟨rfl, rfl⟩
  have a1 : px (ones x1 y1 x2 y2 S k) 1 = x2 ∧ py (ones x1 y1 x2 y2 S k) 1 = y2 := by rw [hl]; exact ⟨rfl, rfl⟩
  have V : VP (ones x1 y1 x2 y2 S k).length (px (ones x1 y1 x2 y2 S k)) (py (ones x1 y1 x2 y2 S k)) := ⟨by omega, by omega, fun j hj => (mem _ (lat j hj)).1, 1, by omega, by rw [a0.1, a1.1]; exact fun e => hx e.symm⟩
  have hp : IsPr (ones x1 y1 x2 y2 S k).length (px (ones x1 y1 x2 y2 S k)) (0, 1) := ⟨by show 0 < 1; omega, by show 1 < _; omega, by show px _ 0 ≠ px _ 1; rw [a0.1, a1.1]; exact hx⟩
  obtain ⟨p1, p2, _⟩ := pr_in V.ok hp
  have own := on_own (X := px (ones x1 y1 x2 y2 S k)) (Y := py (ones x1 y1 x2 y2 S k)) (p := 0) (q := 1) (by rw [a0.1, a1.1]; exact hx)
  unfold pA pB pD at p1
  unfold pD at p2
  simp only [a0.1, a0.2, a1.1, a1.2] at p1 p2 own
  refine ⟨V, p1, p2, fun j hj => ?_⟩
  obtain ⟨_, s, hs⟩ := mem _ (lat j hj)
  unfold px py
  rw [hs]
  obtain ⟨o1, o2⟩ := own
  unfold rs at *
  unfold stX
  generalize thA x1 y1 x2 y2 = A at *
  generalize thB x1 y1 x2 y2 = B at *
  generalize thD x1 y1 x2 y2 = D at *
  have e : (y1 + s * (y2 - y1)) * D - A * (x1 + s * (x2 - x1)) - B = (y1 * D - A * x1 - B) + s * ((y2 * D - A * x2 - B) - (y1 * D - A * x1 - B)) := by grind
  show (y1 + s * (y2 - y1)) * D - A * (x1 + s * (x2 - x1)) - B = 0
  rw [e, o1, o2]
  simp

end Go.Proofs.Ytbhndfnfohoidaa
