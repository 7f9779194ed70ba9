/- The plain law of triggers: how many hits there are within a time, the most of them, and the first trigger. -/
import Derived.Test.YtjokheeegcilhaaDoorCore
namespace Go.Proofs.YtjokheeegcilhaaDoor

/-- The first numbers. -/
def lsI (X : Nat → Int) (n : Nat) : List Int := (List.range n).map X
theorem lsI_len (X : Nat → Int) (n : Nat) : (lsI X n).length = n := by simp [lsI]
/-- The first numbers, sorted. -/
def srI (X : Nat → Int) (n : Nat) : List Int := (lsI X n).mergeSort fun x y => decide (x ≤ y)
theorem srI_len (X : Nat → Int) (n : Nat) : (srI X n).length = n := by unfold srI; rw [List.length_mergeSort, lsI_len]
theorem srI_perm (X : Nat → Int) (n : Nat) : (srI X n).Perm (lsI X n) := List.mergeSort_perm _ _
theorem srI_sorted (X : Nat → Int) (n : Nat) : (srI X n).Pairwise (· ≤ ·) := by
  have h := List.pairwise_mergeSort (le := fun x y : Int => decide (x ≤ y)) (fun a b c h1 h2 => by simp at *; omega) (fun a b => by simp; omega) (lsI X n)
  exact h.imp fun h => by simpa using h
/-- The sorted numbers by index. -/
def srF (X : Nat → Int) (n : Nat) (i : Nat) : Int := (srI X n).getD i 0
theorem srF_mono {X : Nat → Int} {n i j : Nat} (h : i ≤ j) (hj : j < n) : srF X n i ≤ srF X n j := by
  have l := srI_len X n
  have hs := srI_sorted X n
  unfold srF
  rcases Nat.lt_or_eq_of_le h with h | rfl
  · have := List.pairwise_iff_getElem.1 hs i j (by omega) (by omega) h
    rw [List.getD_eq_getElem?_getD, List.getD_eq_getElem?_getD, List.getElem?_eq_getElem (by omega), List.getElem?_eq_getElem (by omega)]
    exact this
  · exact Int.le_refl _
theorem srF_mem {X : Nat → Int} {n i : Nat} (h : i < n) : ∃ k, k < n ∧ srF X n i = X k := by
  have l := srI_len X n
  have e : srF X n i = (srI X n)[i] := by unfold srF; rw [List.getD_eq_getElem?_getD, List.getElem?_eq_getElem (by omega)]; rfl
  have m : srF X n i ∈ lsI X n := (srI_perm X n).mem_iff.1 (by rw [e]; exact List.getElem_mem _)
  unfold lsI at m
  obtain ⟨k, hk, e⟩ := List.mem_map.1 m
  exact ⟨k, List.mem_range.1 hk, e.symm⟩
theorem mem_srF {X : Nat → Int} {n k : Nat} (h : k < n) : ∃ i, i < n ∧ srF X n i = X k := by
  have l := srI_len X n
  have m : X k ∈ srI X n := (srI_perm X n).mem_iff.2 (List.mem_map.2 ⟨k, List.mem_range.2 h, rfl⟩)
  obtain ⟨i, hi, e⟩ := List.getElem_of_mem m
  exact ⟨i, by omega, by unfold srF; rw [List.getD_eq_getElem?_getD, List.getElem?_eq_getElem hi]; exact e⟩

/-- How many of a list are from t to t + w. -/
def inW (t w : Int) (x : Int) : Bool := decide (t ≤ x) && decide (x ≤ t + w)
def cnL (L : List Int) (t w : Int) : Nat := L.countP (inW t w)
/-- How many hits there are from t to t + w. -/
def cnT (T : Nat → Int) (n : Nat) (w t : Int) : Nat := cnL (lsI T n) t w
theorem cnT_succ (T : Nat → Int) (n : Nat) (w t : Int) : cnT T (n + 1) w t = cnT T n w t + if inW t w (T n) then 1 else 0 := by
  unfold cnT cnL lsI
  rw [List.range_succ, List.map_append, List.countP_append]
  simp [List.countP_cons]
theorem cnT_le (T : Nat → Int) (w t : Int) : ∀ n, cnT T n w t ≤ n
  | 0 => Nat.le_refl 0
  | n + 1 => by
    rw [cnT_succ]
    have := cnT_le T w t n
    split <;> omega
theorem cnT_wide {T : Nat → Int} {w w' t : Int} (h : w ≤ w') : ∀ n, cnT T n w t ≤ cnT T n w' t
  | 0 => Nat.le_refl 0
  | n + 1 => by
    rw [cnT_succ, cnT_succ]
    have := cnT_wide (T := T) (t := t) h n
    by_cases h1 : inW t w (T n) = true
    · have h2 : inW t w' (T n) = true := by
        unfold inW at *
        simp at *
        omega
      rw [if_pos h1, if_pos h2]; omega
    · rw [if_neg h1]; omega
theorem cnT_pos {T : Nat → Int} {w : Int} (hw : 0 ≤ w) {n i : Nat} (h : i < n) : 0 < cnT T n w (T i) := by
  unfold cnT cnL
  exact List.countP_pos_iff.2 ⟨T i, List.mem_map.2 ⟨i, List.mem_range.2 h, rfl⟩, by unfold inW; simp; omega⟩
theorem cnT_sr (T : Nat → Int) (n : Nat) (w t : Int) : cnL (srI T n) t w = cnT T n w t := (srI_perm T n).countP_eq _
theorem cn_split (t w : Int) (hw : 0 ≤ w) : ∀ L : List Int, L.countP (fun x => decide (x < t + w + 1)) = L.countP (fun x => decide (x < t)) + cnL L t w
  | [] => rfl
  | x :: L => by
    have ih := cn_split t w hw L
    unfold cnL at *
    rw [List.countP_cons, List.countP_cons, List.countP_cons, ih]
    unfold inW
    by_cases h1 : x < t
    · have h2 : x < t + w + 1 := by omega
      have h3 : ¬ t ≤ x := by omega
      simp [h1, h2, h3]; omega
    · have h3 : t ≤ x := by omega
      by_cases h2 : x < t + w + 1
      · have h4 : x ≤ t + w := by omega
        simp [h1, h2, h3, h4]; omega
      · have h4 : ¬ x ≤ t + w := by omega
        simp [h1, h2, h4]
/-- Behind a first place: as many are below as stand ahead. -/
theorem below_first {T : Nat → Int} {n k : Nat} (hk : k < n) (hf : k = 0 ∨ srF T n (k - 1) ≠ srF T n k) : (srI T n).countP (fun x => decide (x < srF T n k)) = k := by
  have l := srI_len T n
  have at' : ∀ i (h : i < (srI T n).length), (srI T n)[i] = srF T n i := fun i h => by unfold srF; rw [List.getD_eq_getElem?_getD, List.getElem?_eq_getElem h]; rfl
  rw [← List.take_append_drop k (srI T n), List.countP_append]
  have a : ((srI T n).take k).countP (fun x => decide (x < srF T n k)) = k := by
    rw [List.countP_eq_length.2, List.length_take]
    · omega
    · intro x hx
      obtain ⟨i, hi, e⟩ := List.getElem_of_mem hx
      rw [List.length_take] at hi
      rw [List.getElem_take, at' i (by omega)] at e
      have m1 := srF_mono (X := T) (n := n) (show i ≤ k - 1 by omega) (by omega)
      have m2 := srF_mono (X := T) (n := n) (show k - 1 ≤ k by omega) hk
      have : srF T n (k - 1) ≠ srF T n k := by rcases hf with h | h; omega; exact h
      subst e
      simp; omega
  have b : ((srI T n).drop k).countP (fun x => decide (x < srF T n k)) = 0 := by
    rw [List.countP_eq_zero]
    intro x hx
    obtain ⟨i, hi, e⟩ := List.getElem_of_mem hx
    rw [List.length_drop] at hi
    rw [List.getElem_drop, at' (k + i) (by omega)] at e
    have m := srF_mono (X := T) (n := n) (show k ≤ k + i by omega) (by omega)
    subst e
    simp; omega
  rw [a, b]; omega
theorem end_at {T : Nat → Int} {n k : Nat} {w : Int} (hw : 0 ≤ w) (hk : k < n) (hf : k = 0 ∨ srF T n (k - 1) ≠ srF T n k) : (srI T n).countP (fun x => decide (x < srF T n k + w + 1)) = k + cnT T n w (srF T n k) := by
  rw [cn_split _ _ hw, below_first hk hf, cnT_sr]

/-- The times that are handed over, each with its count. -/
def yls (S : Nat → Int) (c : Int → Int) : Nat → List (Int × Int)
  | 0 => []
  | k + 1 => yls S c k ++ if 0 < k ∧ S (k - 1) = S k then [] else [(S k, c (S k))]
theorem mem_yls {S : Nat → Int} {c : Int → Int} : ∀ {k i : Nat}, i < k → (S i, c (S i)) ∈ yls S c k
  | k + 1, i, h => by
    show _ ∈ yls S c k ++ _
    rw [List.mem_append]
    rcases Nat.lt_or_eq_of_le (Nat.le_of_lt_succ h) with h1 | rfl
    · exact .inl (mem_yls h1)
    · by_cases hd : 0 < i ∧ S (i - 1) = S i
      · rw [← hd.2]
        exact .inl (mem_yls (by omega))
      · rw [if_neg hd]
        exact .inr (by simp)
theorem yls_len (S : Nat → Int) (c : Int → Int) : ∀ k, (yls S c k).length ≤ k
  | 0 => Nat.le_refl 0
  | k + 1 => by
    have := yls_len S c k
    show (yls S c k ++ _).length ≤ _
    rw [List.length_append]
    split <;> simp <;> omega

/-- The most of a set of times, and the first time that has as many. -/
structure IsM (T : Nat → Int) (c : Int → Int) (n : Nat) (m a : Int) : Prop where
  is : ∃ i, i < n ∧ a = T i ∧ m = c (T i)
  top : ∀ i, i < n → c (T i) < m ∨ (c (T i) = m ∧ a ≤ T i)
theorem IsM.unique {T : Nat → Int} {c : Int → Int} {n : Nat} {m a m' a' : Int} (h : IsM T c n m a) (h' : IsM T c n m' a') : m = m' ∧ a = a' := by
  obtain ⟨i, hi, rfl, rfl⟩ := h.is
  obtain ⟨j, hj, rfl, rfl⟩ := h'.is
  rcases h.top j hj with h1 | h1 <;> rcases h'.top i hi with h2 | h2 <;> omega
theorem IsM.sorted {T : Nat → Int} {c : Int → Int} {n : Nat} {m a : Int} (h : IsM (srF T n) c n m a) : IsM T c n m a := by
  refine ⟨?_, fun i hi => ?_⟩
  · obtain ⟨i, hi, e1, e2⟩ := h.is
    obtain ⟨k, hk, e⟩ := srF_mem (X := T) hi
    exact ⟨k, hk, by rw [e1, e], by rw [e2, e]⟩
  · obtain ⟨k, hk, e⟩ := mem_srF (X := T) hi
    rw [← e]
    exact h.top k hk
/-- The program's step. -/
def stM (s x : Int × Int) : Int × Int := if s.1 < x.2 then (x.2, x.1) else s
def mstO (l : List (Int × Int)) : Int × Int := l.foldl stM (0, 0)
theorem mst_snoc (l : List (Int × Int)) (x : Int × Int) : mstO (l ++ [x]) = stM (mstO l) x := by unfold mstO; rw [List.foldl_append]; rfl
theorem mst_is {S : Nat → Int} {c : Int → Int} {n : Nat} (hs : ∀ i j, i ≤ j → j < n → S i ≤ S j) (hc : ∀ i, i < n → 0 < c (S i)) : ∀ {k : Nat}, k < n → IsM S c (k + 1) (mstO (yls S c (k + 1))).1 (mstO (yls S c (k + 1))).2
  | 0, h0 => by
    have p := hc 0 h0
    have e : mstO (yls S c 1) = (c (S 0), S 0) := by
      show stM (0, 0) (S 0, c (S 0)) = _
      unfold stM
      rw [if_pos p]
    rw [e]
    exact ⟨⟨0, by omega, rfl, rfl⟩, fun i hi => by obtain rfl : i = 0 := by omega
                                                   exact .inr ⟨rfl, Int.le_refl _⟩⟩
  | k + 1, hk => by
    have ih := mst_is hs hc (k := k) (by omega)
    by_cases hd : 0 < k + 1 ∧ S (k + 1 - 1) = S (k + 1)
    · have e : yls S c (k + 1 + 1) = yls S c (k + 1) := by
        show yls S c (k + 1) ++ _ = _
        rw [if_pos hd]; simp
      rw [e]
      obtain ⟨i, hi, e1, e2⟩ := ih.is
      refine ⟨⟨i, by omega, e1, e2⟩, fun j hj => ?_⟩
      by_cases hj2 : j < k + 1
      · exact ih.top j hj2
      · obtain rfl : j = k + 1 := by omega
        have t := ih.top k (by omega)
        have : S k = S (k + 1) := hd.2
        rwa [this] at t
    · have e : yls S c (k + 1 + 1) = yls S c (k + 1) ++ [(S (k + 1), c (S (k + 1)))] := by
        show yls S c (k + 1) ++ _ = _
        rw [if_neg hd]
      rw [e, mst_snoc]
      generalize mstO (yls S c (k + 1)) = s at *
      obtain ⟨m, a⟩ := s
      obtain ⟨i, hi, e1, e2⟩ := ih.is
      have o := hs i (k + 1) (by omega) hk
      dsimp only at *
      unfold stM
      by_cases h : m < c (S (k + 1))
      · rw [if_pos h]
        refine ⟨⟨k + 1, by omega, rfl, rfl⟩, fun j hj => ?_⟩
        by_cases hj2 : j < k + 1
        · rcases ih.top j hj2 with t | t
          · exact .inl (by dsimp only; omega)
          · exact .inl (by dsimp only; omega)
        · obtain rfl : j = k + 1 := by omega
          exact .inr ⟨rfl, Int.le_refl _⟩
      · rw [if_neg h]
        refine ⟨⟨i, by omega, e1, e2⟩, fun j hj => ?_⟩
        by_cases hj2 : j < k + 1
        · exact ih.top j hj2
        · obtain rfl : j = k + 1 := by omega
          dsimp only
          omega
/-- The reference's loop. -/
def refM (T : Nat → Int) (c : Int → Int) : Nat → Int × Int
  | 0 => (0, 0)
  | k + 1 => if (refM T c k).1 < c (T k) ∨ (c (T k) = (refM T c k).1 ∧ T k < (refM T c k).2) then (c (T k), T k) else refM T c k
theorem refM_is {T : Nat → Int} {c : Int → Int} {n : Nat} (hc : ∀ i, i < n → 0 < c (T i)) : ∀ {k : Nat}, k < n → IsM T c (k + 1) (refM T c (k + 1)).1 (refM T c (k + 1)).2
  | 0, h0 => by
    have p := hc 0 h0
    have e : refM T c 1 = (c (T 0), T 0) := by
      exact if_pos (.inl p)
    rw [e]
    exact ⟨⟨0, by omega, rfl, rfl⟩, fun i hi => by obtain rfl : i = 0 := by omega
                                                   exact .inr ⟨rfl, Int.le_refl _⟩⟩
  | k + 1, hk => by
    have ih := refM_is hc (k := k) (by omega)
    show IsM T c (k + 2) (if _ then _ else _ : Int × Int).1 (if _ then _ else _ : Int × Int).2
    generalize refM T c (k + 1) = s at *
    obtain ⟨m, a⟩ := s
    obtain ⟨i, hi, e1, e2⟩ := ih.is
    dsimp only at *
    by_cases h : m < c (T (k + 1)) ∨ (c (T (k + 1)) = m ∧ T (k + 1) < a)
    · rw [if_pos h]
      refine ⟨⟨k + 1, by omega, rfl, rfl⟩, fun j hj => ?_⟩
      by_cases hj2 : j < k + 1
      · rcases ih.top j hj2 with t | t <;> dsimp only <;> omega
      · obtain rfl : j = k + 1 := by omega
        exact .inr ⟨rfl, Int.le_refl _⟩
    · rw [if_neg h]
      refine ⟨⟨i, by omega, e1, e2⟩, fun j hj => ?_⟩
      by_cases hj2 : j < k + 1
      · exact ih.top j hj2
      · obtain rfl : j = k + 1 := by omega
        dsimp only
        omega

/-- The first trigger, or that there is none (with the error). -/
def IsT (T : Nat → Int) (c : Int → Int) (n : Nat) (N t E : Int) : Prop :=
  (E = 0 ∧ (∃ i, i < n ∧ T i = t ∧ N ≤ c t) ∧ ∀ i, i < n → N ≤ c (T i) → t ≤ T i) ∨ (E = 5 ∧ t = 0 ∧ ∀ i, i < n → c (T i) < N)
theorem IsT.unique {T : Nat → Int} {c : Int → Int} {n : Nat} {N t E t' E' : Int} (h : IsT T c n N t E) (h' : IsT T c n N t' E') : t = t' ∧ E = E' := by
  rcases h with ⟨e, ⟨i, hi, rfl, hN⟩, top⟩ | ⟨e, e2, no⟩ <;> rcases h' with ⟨e', ⟨j, hj, rfl, hN'⟩, top'⟩ | ⟨e', e2', no'⟩
  · have a := top j hj hN'
    have b := top' i hi hN
    exact ⟨by omega, by rw [e, e']⟩
  · have := no' i hi; omega
  · have := no j hj; omega
  · exact ⟨by rw [e2, e2'], by rw [e, e']⟩
theorem IsT.sorted {T : Nat → Int} {c : Int → Int} {n : Nat} {N t E : Int} (h : IsT (srF T n) c n N t E) : IsT T c n N t E := by
  rcases h with ⟨e, ⟨i, hi, e1, hN⟩, top⟩ | ⟨e, e2, no⟩
  · obtain ⟨k, hk, e3⟩ := srF_mem (X := T) hi
    refine .inl ⟨e, ⟨k, hk, by rw [← e3, e1], hN⟩, fun j hj h => ?_⟩
    obtain ⟨k, hk, e⟩ := mem_srF (X := T) hj
    rw [← e] at h ⊢
    exact top k hk h
  · refine .inr ⟨e, e2, fun j hj => ?_⟩
    obtain ⟨k, hk, e⟩ := mem_srF (X := T) hj
    rw [← e]
    exact no k hk
/-- A prefix of what is handed over, whose last one alone is enough. -/
theorem trig_stop {S : Nat → Int} {c : Int → Int} {n k : Nat} {N : Int} (hs : ∀ i j, i ≤ j → j < n → S i ≤ S j) (hk : k < n) (hN : N ≤ c (S k)) (h : ∀ x ∈ yls S c k, x.2 < N) : IsT S c n N (S k) 0 := by
  refine .inl ⟨rfl, ⟨k, hk, rfl, hN⟩, fun i hi h1 => ?_⟩
  by_cases hik : i < k
  · have := h _ (mem_yls hik)
    dsimp only at this
    omega
  · exact hs k i (by omega) hi
theorem trig_none {S : Nat → Int} {c : Int → Int} {n : Nat} {N : Int} (h : ∀ x ∈ yls S c n, x.2 < N) : IsT S c n N 0 5 := .inr ⟨rfl, rfl, fun _ hi => h _ (mem_yls hi)⟩

end Go.Proofs.YtjokheeegcilhaaDoor
