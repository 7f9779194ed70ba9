/- The layers are layers, each hit is in one, and they are as many as the longest chain has hits. -/
import Derived.Test.YtjokheeegcilhaaDoorP15
namespace Go.Proofs.YtjokheeegcilhaaDoor
open Go.Firn

theorem els_asc {p : Nat → Bool} : ∀ {n j k : Nat}, j < k → k < (els p n).length → (els p n).getD j 0 < (els p n).getD k 0 := by
  intro n
  induction n with
  | zero => intro j k _ hk; simp [els_zero] at hk
  | succ n ih =>
    intro j k hjk hk
    rw [els_succ] at hk ⊢
    by_cases hp : p n = true
    · rw [if_pos hp] at hk ⊢
      by_cases e : k < (els p n).length
      · rw [List.getD, List.getD, List.getElem?_append_left (by omega), List.getElem?_append_left e]
        exact ih hjk e
      · have ek : k = (els p n).length := by simp at hk; omega
        subst ek
        rw [List.getD, List.getD, List.getElem?_append_left hjk, List.getElem?_append_right (Nat.le_refl _)]
        have := (els_lt (p := p) (n := n) hjk).1
        simpa [List.getD] using this
    · rw [if_neg hp, List.append_nil] at hk ⊢
      exact ih hjk hk

/-- A set of hits of which no two know of each other, as a list, is a layer. -/
theorem els_layB {n : Nat} {P T : Nat → Int} {p : Nat → Bool} (hf : Free n (cmpd P T) p) (h1 : 1 ≤ cnt p n) (h2 : cnt p n ≤ 50) : layB n P T (els p n).length (nf (els p n)) = true := by
  unfold layB layK
  rw [els_length]
  simp only [Bool.and_eq_true, List.all_eq_true, List.mem_range, decide_eq_true_eq]
  refine ⟨⟨fun k hk => ?_, h1⟩, h2⟩
  rw [← els_length] at hk
  have hkn := els_lt hk
  unfold layAt
  simp only [Bool.and_eq_true, List.all_eq_true, List.mem_range, Bool.not_eq_true', Bool.and_eq_false_iff, decide_eq_false_iff_not]
  refine ⟨⟨?_, ?_⟩, fun j hj => ?_⟩
  · unfold inH nf
    simp only [Bool.and_eq_true, decide_eq_true_eq]
    omega
  · by_cases e : 0 < k
    · right
      have := els_asc (p := p) (n := n) (show k - 1 < k by omega) hk
      unfold nf
      omega
    · exact .inl e
  · have hjn := els_lt (show j < (els p n).length by omega)
    unfold nf
    simp only [Int.toNat_natCast]
    exact hf _ hkn.1 hkn.2 _ hjn.1 hjn.2

theorem els_count (p : Nat → Bool) (x : Nat) : ∀ k, (els p k).count x = if x < k ∧ p x = true then 1 else 0 := by
  intro k
  induction k with
  | zero => rw [els_zero]; simp
  | succ k ih =>
    rw [els_succ, List.count_append, ih]
    by_cases e : x = k
    · subst e
      by_cases hp : p x = true
      · simp [hp]
      · simp [hp]
    · have e2 : (if x < k + 1 ∧ p x = true then (1 : Nat) else 0) = if x < k ∧ p x = true then 1 else 0 := by
        by_cases h : x < k ∧ p x = true
        · rw [if_pos h, if_pos ⟨by omega, h.2⟩]
        · rw [if_neg h, if_neg (fun h2 => h ⟨by omega, h2.2⟩)]
      rw [e2]
      by_cases hp : p k = true
      · have : ¬ k = x := fun h => e h.symm
        simp [hp, this]
      · simp [hp]

theorem frB_iff {n : Nat} {P T : Nat → Int} {l : Nat → Bool} {a : Nat} : frB n P T l a = true ↔ l a = true ∧ ∀ b, b < n → l b = true → bf P T b a = false := by
  unfold frB
  simp only [Bool.and_eq_true, List.all_eq_true, List.mem_range, Bool.not_eq_true']
  constructor
  · rintro ⟨h1, h2⟩
    refine ⟨h1, fun b hb hl => ?_⟩
    have := h2 b hb
    rw [hl] at this
    simpa using this
  · rintro ⟨h1, h2⟩
    refine ⟨h1, fun b hb => ?_⟩
    cases hl : l b with
    | true => simpa using h2 b hb hl
    | false => rfl
theorem frB_free {n : Nat} {P T : Nat → Int} (l : Nat → Bool) : Free n (cmpd P T) (frB n P T l) := fun i hi h1 j hj h2 => by
  have k1 := frB_iff.1 h1
  have k2 := frB_iff.1 h2
  unfold cmpd
  rw [k2.2 i hi k1.1, k1.2 j hj k2.1]
  rfl

theorem lay_occ {n : Nat} {P T : Nat → Int} {x : Nat} (hx : x < n) : ∀ m, (layT n P T m).flatten.count x = if leftK n P T m x = true then 0 else 1 := by
  intro m
  induction m with
  | zero =>
    have : leftK n P T 0 x = true := decide_eq_true hx
    rw [if_pos this]; rfl
  | succ m ih =>
    rw [layT_succ, List.flatten_append, List.count_append, ih]
    have e : ([layK1 n P T m] : List (List Nat)).flatten.count x = if frB n P T (leftK n P T m) x = true then 1 else 0 := by
      rw [List.flatten_singleton]
      unfold layK1 firstL
      rw [els_count]
      simp [hx]
    rw [e]
    show _ = if (leftK n P T m x && !frB n P T (leftK n P T m) x) = true then 0 else 1
    cases hl : leftK n P T m x with
    | false =>
      have : frB n P T (leftK n P T m) x = false := by
        cases h : frB n P T (leftK n P T m) x with
        | false => rfl
        | true => have := (frB_iff.1 h).1; rw [hl] at this; cases this
      rw [this]; rfl
    | true =>
      cases frB n P T (leftK n P T m) x <;> rfl

/-- The layers are layers. -/
theorem lay_are {n : Nat} {P T : Nat → Int} (hn : n ≤ 14) {m : Nat} (h : LastL n P T m) : areB n (layB n P T) m (tr nf (layT n P T m)) = true := by
  have hm := left_le h.2
  have hk : kindK (layB n P T) (tr nf (layT n P T m)) m = true := by
    unfold kindK
    rw [List.all_eq_true]
    intro i hi
    have hi' := List.mem_range.1 hi
    have e : (layT n P T m).getD i [] = layK1 n P T i := by
      unfold layT
      rw [List.getD, List.getElem?_map, List.getElem?_range hi']
      rfl
    show layB n P T ((layT n P T m).getD i []).length (nf ((layT n P T m).getD i [])) = true
    rw [e]
    have h1 := lay_pos (h.2 i hi')
    unfold layK1 firstL at h1 ⊢
    rw [els_length] at h1
    exact els_layB (frB_free _) h1 (by have := cnt_le (frB n P T (leftK n P T i)) n; omega)
  rw [areB_done hk]
  have : onceB n m (tr nf (layT n P T m)) = true := by
    unfold onceB
    rw [List.all_eq_true]
    intro x hx
    have hx' := List.mem_range.1 hx
    have := occ_flat (layT n P T m) x
    rw [layT_length] at this
    rw [this, lay_occ hx', if_neg (by rw [cnt_zero h.1 x hx']; simp)]
    rfl
  rw [this]
  simp; omega

/-- There are as many layers as the longest chain has hits. -/
theorem lay_top {n : Nat} {P T : Nat → Int} (h1 : 1 ≤ n) (hn : n ≤ 14) {m : Nat} (h : LastL n P T m) : topH n P T = m := by
  have a : topH n P T ≤ m := by
    have := chain_layers (lay_are hn h) (chnL_chain (P := P) (T := T) h1 hn)
    rw [(chnL_good h1).1] at this
    exact this
  have key : ∀ j, j < m → ∃ y, y < n ∧ frB n P T (leftK n P T (m - 1 - j)) y = true ∧ j + 1 ≤ ht n P T y := by
    intro j
    induction j with
    | zero =>
      intro hj
      have := lay_pos (h.2 (m - 1 - 0) (by omega))
      unfold layK1 firstL at this
      obtain ⟨k1, k2⟩ := els_lt this
      exact ⟨_, k1, k2, ht_pos _⟩
    | succ j ih =>
      intro hj
      obtain ⟨x, hx, hf, hh⟩ := ih (by omega)
      have hf' := frB_iff.1 hf
      rw [show m - 1 - j = (m - 1 - (j + 1)) + 1 by omega] at hf'
      have hl : (leftK n P T (m - 1 - (j + 1)) x && !frB n P T (leftK n P T (m - 1 - (j + 1))) x) = true := hf'.1
      simp only [Bool.and_eq_true, Bool.not_eq_true'] at hl
      have : ∃ b, b < n ∧ leftK n P T (m - 1 - (j + 1)) b = true ∧ bf P T b x = true := by
        refine Classical.byContradiction fun hno => ?_
        have : frB n P T (leftK n P T (m - 1 - (j + 1))) x = true := frB_iff.2 ⟨hl.1, fun b hb hlb => by
          cases hbx : bf P T b x with
          | false => rfl
          | true => exact absurd ⟨b, hb, hlb, hbx⟩ hno⟩
        rw [this] at hl
        cases hl.2
      obtain ⟨b, hb, hlb, hbx⟩ := this
      refine ⟨b, hb, ?_, by have := ht_lt hx hbx; omega⟩
      cases hfb : frB n P T (leftK n P T (m - 1 - (j + 1))) b with
      | true => rfl
      | false =>
        have : leftK n P T (m - 1 - (j + 1) + 1) b = true := by
          show (leftK n P T (m - 1 - (j + 1)) b && !frB n P T (leftK n P T (m - 1 - (j + 1))) b) = true
          rw [hlb, hfb]; rfl
        have := hf'.2 b hb this
        rw [hbx] at this; cases this
  have hm : m ≤ topH n P T := by
    rcases Nat.eq_zero_or_pos m with e | e
    · omega
    · obtain ⟨y, hy, _, hh⟩ := key (m - 1) (by omega)
      have := mx_le (ht n P T) hy
      unfold topH
      omega
  omega

/-- The longest layer is a layer. -/
theorem layL_free {n : Nat} {P T : Nat → Int} : Free n (cmpd P T) (layS n P T).testBit := by
  have hk := known n P T
  have hr := lay_rev n P T
  have hd := down_best (n := n) (L := knowM n P T) (2 ^ n) (2 ^ n - 1) 0
  rcases hd.2.2 with h | h
  · have h0 : layR n P T = 0 := h
    intro i hi hp
    rw [hr.2.2 i hi, h0] at hp
    simp at hp
  · have := hk.free.1 h
    intro i hi hp j hj hq
    rw [hr.2.2 i hi] at hp
    rw [hr.2.2 j hj] at hq
    exact this i hi hp j hj hq
theorem layL_pos {n : Nat} {P T : Nat → Int} (h1 : 1 ≤ n) : 1 ≤ (layL n P T).length := by
  have := (layL_best (n := n) (P := P) (T := T)).2 (fun x => decide (x = 0)) (fun i _ hi j _ hj => by
    have e1 : i = 0 := of_decide_eq_true hi
    have e2 : j = 0 := of_decide_eq_true hj
    subst e1; subst e2
    exact cmpd_self P T 0)
  have h2 : 0 < cnt (fun x => decide (x = 0)) n := cnt_pos (show 0 < n by omega) rfl
  omega
theorem layL_layer {n : Nat} {P T : Nat → Int} (h1 : 1 ≤ n) (hn : n ≤ 14) : layB n P T (layL n P T).length (nf (layL n P T)) = true := by
  have h2 := layL_pos (P := P) (T := T) h1
  unfold layL at h2 ⊢
  rw [els_length] at h2
  exact els_layB layL_free h2 (by have := cnt_le (layS n P T).testBit n; omega)

/-- Both lengths multiplied are at least all hits. -/
theorem lay_area {n : Nat} {P T : Nat → Int} (hn : n ≤ 14) {m : Nat} (h : LastL n P T m) : n ≤ m * (layL n P T).length :=
  areB_area (lay_are hn h) fun i hi => by
    have e : (layT n P T m).getD i [] = layK1 n P T i := by
      unfold layT
      rw [List.getD, List.getElem?_map, List.getElem?_range hi]
      rfl
    show ((layT n P T m).getD i []).length ≤ _
    rw [e]
    unfold layK1 firstL
    rw [els_length]
    exact layL_best.2 _ (frB_free _)

end Go.Proofs.YtjokheeegcilhaaDoor
