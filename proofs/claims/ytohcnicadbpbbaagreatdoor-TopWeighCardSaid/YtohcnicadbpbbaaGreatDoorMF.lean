/- Plain law of chapter 7: the cut of k is the first k of the row, sorted; which lists are cuts. Plain law of chapter 7: each cut is a set of outcomes; what a cut keeps is at most all. Sums behind a merge: a set of merged outcomes holds what a set of the outcomes holds. A merge that makes odds invalid makes a weight too great. Plain law of chapter 7: the order of cuts, and the best one of those that are let. -/
import Derived.Test.YtohcnicadbpbbaaGreatDoorMD
import Derived.Test.YtohcnicadbpbbaaGreatDoorME
import Derived.Test.YtohcnicadbpbbaaGreatDoorMC
import Derived.Test.YtohcnicadbpbbaaGreatDoorMA
namespace Go.Proofs.YtohcnicadbpbbaaGreatDoor
open Go.RowKit Go.Firn

theorem onL_mem {p : Nat → Bool} {n a : Nat} : a ∈ onL p n ↔ a < n ∧ p a = true := by unfold onL; rw [List.mem_filter, List.mem_range]
theorem onL_up (p : Nat → Bool) (n : Nat) : (onL p n).Pairwise (· < ·) := List.Pairwise.filter _ (List.pairwise_lt_range)
theorem onL_nodup (p : Nat → Bool) (n : Nat) : (onL p n).Nodup := (onL_up p n).imp fun h => Nat.ne_of_lt h
theorem nf_at {L : List Nat} {i : Nat} (h : i < L.length) : nf L i = (L[i] : Int) := by unfold nf; rw [List.getD_eq_getElem?_getD, List.getElem?_eq_getElem h]; rfl
/-- A list of numbers that goes up is a cut. -/
theorem cut_of_up {L : List Nat} {n : Nat} (hu : L.Pairwise (· < ·)) (hb : ∀ a ∈ L, a < n) : Cut n L.length (nf L) := by
  refine ⟨fun i hi => ?_, fun i hi => ?_⟩
  · rw [nf_at hi]
    have := hb _ (List.getElem_mem hi)
    omega
  · rw [nf_at hi, nf_at (by omega)]
    have := List.pairwise_iff_getElem.1 hu i (i + 1) (by omega) hi (by omega)
    omega
theorem cut_onL (p : Nat → Bool) (n : Nat) : Cut n (onL p n).length (nf (onL p n)) := cut_of_up (onL_up p n) fun _ h => (onL_mem.1 h).1
theorem inN_iff {R : Nat → Nat} {a : Nat} : ∀ {k : Nat}, inN R k a = true ↔ ∃ p, p < k ∧ R p = a
  | 0 => by simp [inN, setN]
  | k + 1 => by
    rw [inN_succ, Bool.or_eq_true, inN_iff, decide_eq_true_eq]
    constructor
    · rintro (⟨p, h1, h2⟩ | h)
      · exact ⟨p, by omega, h2⟩
      · exact ⟨k, by omega, h.symm⟩
    · rintro ⟨p, h1, h2⟩
      by_cases e : p = k
      · subst e; exact .inr h2.symm
      · exact .inl ⟨p, by omega, h2⟩
/-- The first k of a row, sorted. -/
theorem row_sorted {R : Nat → Nat} {n k : Nat} (hi : Inj n R) (hb : ∀ p, p < n → R p < n) (hk : k ≤ n) :
    (((List.range k).map fun p => (R p : Int)).mergeSort fun x y => decide (x ≤ y)) = (onL (setN R k).testBit n).map fun (a : Nat) => (a : Int) := by
  have tr : ∀ a b c : Int, decide (a ≤ b) = true → decide (b ≤ c) = true → decide (a ≤ c) = true := fun a b c h1 h2 => by
    simp at *; omega
  have tt : ∀ a b : Int, (decide (a ≤ b) || decide (b ≤ a)) = true := fun a b => by simp; omega
  refine List.Perm.eq_of_pairwise (le := fun x y : Int => x ≤ y) (fun a b _ _ h1 h2 => Int.le_antisymm h1 h2) ?_ ?_ ?_
  · exact (List.pairwise_mergeSort tr tt _).imp fun h => by simpa using h
  · rw [List.pairwise_map]
    exact (onL_up _ n).imp fun h => by omega
  · refine (List.mergeSort_perm _ _).trans ?_
    have e : (List.range k).map (fun p => (R p : Int)) = ((List.range k).map R).map fun (a : Nat) => (a : Int) := by rw [List.map_map]; rfl
    rw [e]
    refine List.Perm.map _ ((List.perm_ext_iff_of_nodup ?_ (onL_nodup _ n)).2 fun a => ?_)
    · rw [List.nodup_iff_pairwise_ne, List.pairwise_map]
      refine (List.pairwise_lt_range (n := k)).imp_of_mem fun {a b} ha hb' h e2 => ?_
      have := hi a b (by have := List.mem_range.1 ha; omega) (by have := List.mem_range.1 hb'; omega) e2
      omega
    · rw [onL_mem, List.mem_map]
      have h := inN_iff (R := R) (a := a) (k := k)
      unfold inN at h
      rw [h]
      constructor
      · rintro ⟨p, h1, rfl⟩
        have := List.mem_range.1 h1
        exact ⟨hb p (by omega), p, this, rfl⟩
      · rintro ⟨_, p, h1, h2⟩
        exact ⟨p, List.mem_range.2 h1, h2⟩
theorem cN_len {f g : Nat → Int} (hf : ∀ i, 0 ≤ f i) (hg : ∀ i, 0 ≤ g i) {n k : Nat} (hn : 0 < n) (hk : k ≤ n) : (cN f g n k).length = k := by
  have O := ord_row hf hg hn
  have h := congrArg List.length (row_sorted O.inj O.bd hk)
  rw [List.length_mergeSort, List.length_map, List.length_map, List.length_range] at h
  exact h.symm
theorem cN_cut (f g : Nat → Int) (n k : Nat) : Cut n (cN f g n k).length (nf (cN f g n k)) := cut_onL _ n
theorem cN_sorted {f g : Nat → Int} (hf : ∀ i, 0 ≤ f i) (hg : ∀ i, 0 ≤ g i) {n k : Nat} (hn : 0 < n) (hk : k ≤ n) :
    (((List.range k).map fun p => (rowN f g n p : Int)).mergeSort fun x y => decide (x ≤ y)) = (cN f g n k).map fun (a : Nat) => (a : Int) := by
  have O := ord_row hf hg hn
  exact row_sorted O.inj O.bd hk

end Go.Proofs.YtohcnicadbpbbaaGreatDoor

namespace Go.Proofs.YtohcnicadbpbbaaGreatDoor
open Go.RowKit Go.Firn

/-- Lists that go up and have the same members are the same. -/
theorem up_ext {L M : List Nat} (hL : L.Pairwise (· < ·)) (hM : M.Pairwise (· < ·)) (h : ∀ a, a ∈ L ↔ a ∈ M) : L = M := by
  have dL : L.Nodup := hL.imp fun h => Nat.ne_of_lt h
  have dM : M.Nodup := hM.imp fun h => Nat.ne_of_lt h
  exact List.Perm.eq_of_pairwise (le := fun x y : Nat => x < y) (fun a b _ _ h1 h2 => by omega) hL hM ((List.perm_ext_iff_of_nodup dL dM).2 h)
/-- The numbers of a cut. -/
def cutL (h : Nat → Int) (q : Nat) : List Nat := (List.range q).map fun i => (h i).toNat
theorem cutL_len (h : Nat → Int) (q : Nat) : (cutL h q).length = q := by simp [cutL]
theorem cutL_nf {n q : Nat} {h : Nat → Int} (C : Cut n q h) {i : Nat} (hi : i < q) : nf (cutL h q) i = h i := by
  have := (C.ok i hi).1
  rw [nf_at (by rw [cutL_len]; exact hi)]
  simp only [cutL, List.getElem_map, List.getElem_range]
  omega
theorem Cut.lt {n q : Nat} {h : Nat → Int} (C : Cut n q h) {i : Nat} : ∀ {j : Nat}, i < j → j < q → h i < h j
  | j + 1, h1, h2 => by
    have a := C.up j h2
    rcases Nat.lt_or_ge i j with h3 | h3
    · have := C.lt (i := i) (j := j) h3 (by omega); omega
    · rw [show i = j by omega]; exact a
theorem cutL_up {n q : Nat} {h : Nat → Int} (C : Cut n q h) : (cutL h q).Pairwise (· < ·) := by
  rw [List.pairwise_iff_getElem]
  intro i j hi hj hij
  rw [cutL_len] at hi hj
  simp only [cutL, List.getElem_map, List.getElem_range]
  have a := C.lt hij hj
  have b := (C.ok i hi).1
  omega
/-- A cut as a set. -/
def cutS (h : Nat → Int) (q : Nat) : Nat := setN (fun i => (h i).toNat) q
theorem setN_pow {R : Nat → Nat} {n : Nat} : ∀ {k : Nat}, (∀ p, p < k → R p < n) → setN R k < 2 ^ n
  | 0, _ => Nat.two_pow_pos n
  | k + 1, h => by
    refine Nat.or_lt_two_pow (setN_pow fun p hp => h p (by omega)) ?_
    rw [Nat.shiftLeft_eq, Nat.one_mul]
    exact Nat.pow_lt_pow_of_lt (by decide) (h k (by omega))
theorem cutS_lt {n q : Nat} {h : Nat → Int} (C : Cut n q h) : cutS h q < 2 ^ n := setN_pow fun p hp => by
  have := C.ok p hp
  omega
theorem cutS_list {n q : Nat} {h : Nat → Int} (C : Cut n q h) : onL (cutS h q).testBit n = cutL h q := by
  refine up_ext (onL_up _ n) (cutL_up C) fun a => ?_
  have e : (cutS h q).testBit a = true ↔ ∃ p, p < q ∧ (h p).toNat = a := inN_iff (R := fun i => (h i).toNat) (a := a) (k := q)
  rw [onL_mem, e]
  unfold cutL
  rw [List.mem_map]
  constructor
  · rintro ⟨_, p, h1, h2⟩
    exact ⟨p, List.mem_range.2 h1, h2⟩
  · rintro ⟨p, h1, h2⟩
    have h1 := List.mem_range.1 h1
    have := C.ok p h1
    exact ⟨by omega, p, h1, h2⟩
/-- The weights of a set. -/
def kS (f : Nat → Int) (s n : Nat) : Int := sm (fun a => if s.testBit a then f a else 0) n
theorem Cut.kp {n q : Nat} {h : Nat → Int} (C : Cut n q h) (f : Nat → Int) : Go.Proofs.YtohcnicadbpbbaaGreatDoor.kp f h q = kS f (cutS h q) n := by
  unfold kS
  rw [← kp_onL f (cutS h q).testBit n, cutS_list C, cutL_len]
  unfold Go.Proofs.YtohcnicadbpbbaaGreatDoor.kp
  exact sm_congr fun i hi => by rw [cutL_nf C hi]
theorem kS_bd {f : Nat → Int} (hf : ∀ i, 0 ≤ f i) (s n : Nat) : 0 ≤ kS f s n ∧ kS f s n ≤ sm f n := by
  unfold kS
  constructor
  · have := sm_mono (f := fun _ => 0) (g := fun a => if s.testBit a then f a else 0) (n := n) (fun i _ => by have := hf i; split <;> omega)
    rwa [show sm (fun _ => (0 : Int)) n = 0 from by have := sm_mul 0 (fun _ => 0) n; simpa using this] at this
  · exact sm_mono fun i _ => by have := hf i; split <;> omega
theorem kp_all {n q : Nat} {h : Nat → Int} (C : Cut n q h) {f : Nat → Int} (hf : ∀ i, 0 ≤ f i) : 0 ≤ Go.Proofs.YtohcnicadbpbbaaGreatDoor.kp f h q ∧ Go.Proofs.YtohcnicadbpbbaaGreatDoor.kp f h q ≤ sm f n := by
  rw [C.kp]; exact kS_bd hf _ n

end Go.Proofs.YtohcnicadbpbbaaGreatDoor

namespace Go.Proofs.YtohcnicadbpbbaaGreatDoor

theorem sm_skip (h : Nat → Int) {j : Nat} : ∀ {N : Nat}, j ≤ N → sm (fun p => if p < j then h p else h (p + 1)) N + h j = sm h (N + 1)
  | 0, hj => by
    obtain rfl : j = 0 := by omega
    show (0 : Int) + h 0 = 0 + h 0
    rfl
  | N + 1, hj => by
    by_cases e : j = N + 1
    · subst e
      have : sm (fun p => if p < N + 1 then h p else h (p + 1)) (N + 1) = sm h (N + 1) := sm_congr fun p hp => if_pos hp
      rw [this]
      rfl
    · have ih := sm_skip h (j := j) (N := N) (by omega)
      show sm (fun p => if p < j then h p else h (p + 1)) N + (if N < j then h N else h (N + 1)) + h j = sm h (N + 1) + h (N + 1)
      rw [if_neg (by omega), ← ih]
      omega
theorem sm_only (c : Int) {i : Nat} : ∀ {N : Nat}, i < N → sm (fun q => if q = i then c else 0) N = c
  | 0, h => by omega
  | N + 1, h => by
    show sm (fun q => if q = i then c else 0) N + (if N = i then c else 0) = c
    by_cases e : N = i
    · rw [if_pos e]
      have : sm (fun q => if q = i then c else 0) N = sm (fun _ => 0) N := sm_congr fun q hq => if_neg (by omega)
      have z : ∀ M, sm (fun _ => (0 : Int)) M = 0 := fun M => by
        induction M with
        | zero => rfl
        | succ M ih => show sm (fun _ => (0 : Int)) M + 0 = 0; omega
      rw [this, z]; omega
    · rw [if_neg e, sm_only c (by omega)]; omega
/-- The outcomes that stand behind a set of merged ones. -/
def unM (p : Nat → Bool) (i j a : Nat) : Bool := if a = j then p i else if a < j then p a else p (a - 1)
theorem unM_sum (f : Nat → Int) (p : Nat → Bool) {n i j : Nat} (hij : i < j) (hj : j < n) :
    sm (fun a => if p a then mgF f i j a else 0) (n - 1) = sm (fun a => if unM p i j a then f a else 0) n := by
  let h : Nat → Int := fun a => if unM p i j a then f a else 0
  have hh : h j = if p i then f j else 0 := by show (if unM p i j j then f j else 0) = _; unfold unM; rw [if_pos rfl]
  have e : sm (fun a => if p a then mgF f i j a else 0) (n - 1) = sm (fun q => (if q < j then h q else h (q + 1)) + (if q = i then h j else 0)) (n - 1) :=
    sm_congr fun q hq => by
      have k : (if q < j then h q else h (q + 1)) = if p q then (if q < j then f q else f (q + 1)) else 0 := by
        by_cases t : q < j
        · rw [if_pos t, if_pos t]
          show (if unM p i j q then f q else 0) = _
          rw [show unM p i j q = p q from by unfold unM; rw [if_neg (by omega), if_pos t]]
        · rw [if_neg t, if_neg t]
          show (if unM p i j (q + 1) then f (q + 1) else 0) = _
          rw [show unM p i j (q + 1) = p q from by unfold unM; rw [if_neg (by omega), if_neg (by omega)]; rfl]
      rw [k, hh]
      unfold mgF
      by_cases t : q = i
      · subst t
        cases p q <;> simp
      · rw [if_neg t, if_neg t]
        cases p q <;> simp
  rw [e, sm_add, sm_only _ (by omega)]
  have := sm_skip h (j := j) (N := n - 1) (by omega)
  rw [show n - 1 + 1 = n by omega] at this
  exact this

end Go.Proofs.YtohcnicadbpbbaaGreatDoor

namespace Go.Proofs.YtohcnicadbpbbaaGreatDoor

theorem mg_sum (f : Nat → Int) {n i j : Nat} (hij : i < j) (hj : j < n) : sm (mgF f i j) (n - 1) = sm f n := by
  have h := unM_sum f (fun _ => true) hij hj
  have e : sm (fun a => if unM (fun _ => true) i j a then f a else 0) n = sm f n := sm_congr fun a _ => by
    rw [if_pos]
    unfold unM
    split
    · rfl
    · split <;> rfl
  rw [e] at h
  exact (sm_congr fun a _ => (if_pos rfl).symm).trans h
theorem mg_nonneg {f : Nat → Int} {n i j : Nat} (hf : ∀ k, k < n → 0 ≤ f k) (hj : j < n) {p : Nat} (hp : p < n - 1) : 0 ≤ mgF f i j p := by
  have a := hf j hj
  have b := hf p (by omega)
  have c := hf (p + 1) (by omega)
  unfold mgF
  split <;> split <;> omega
theorem mg_VW {f : Nat → Int} {n i j : Nat} (V : VW n f) (hij : i < j) (hj : j < n) (h : ∀ p, p < n - 1 → mgF f i j p ≤ 1000) : VW (n - 1) (mgF f i j) :=
  ⟨by omega, by have := V.few; omega, fun p hp => ⟨mg_nonneg (fun k hk => (V.ok k hk).1) hj hp, h p hp⟩, by rw [mg_sum f hij hj]; exact V.pos⟩
theorem mg_over {f g : Nat → Int} {n i j : Nat} (V : VO n n f g) (hij : i < j) (hj : j < n) (hv : vO (n - 1) (n - 1) (mgF f i j) (mgF g i j) = false) :
    (∃ p, p < n - 1 ∧ 1000 < mgF f i j p) ∨ ∃ p, p < n - 1 ∧ 1000 < mgF g i j p := by
  by_cases h1 : ∃ p, p < n - 1 ∧ 1000 < mgF f i j p
  · exact .inl h1
  · by_cases h2 : ∃ p, p < n - 1 ∧ 1000 < mgF g i j p
    · exact .inr h2
    · exfalso
      have a : ∀ p, p < n - 1 → mgF f i j p ≤ 1000 := fun p hp => Int.not_lt.1 fun h => h1 ⟨p, hp, h⟩
      have b : ∀ p, p < n - 1 → mgF g i j p ≤ 1000 := fun p hp => Int.not_lt.1 fun h => h2 ⟨p, hp, h⟩
      have := vO_iff.2 ⟨mg_VW V.noise hij hj a, mg_VW V.signal hij hj b, rfl⟩
      rw [this] at hv
      cases hv

end Go.Proofs.YtohcnicadbpbbaaGreatDoor

namespace Go.Proofs.YtohcnicadbpbbaaGreatDoor
open Go.RowKit Go.Firn

/-- Which of two lists comes first, number by number. -/
def lexI : List Nat → List Nat → Int
  | [], [] => 0
  | [], _ :: _ => -1
  | _ :: _, [] => 1
  | a :: l, b :: m => if a < b then -1 else if b < a then 1 else lexI l m
theorem lexI_self : ∀ l, lexI l l = 0
  | [] => rfl
  | a :: l => by simp [lexI, lexI_self l]
theorem lexI_anti : ∀ l m, lexI m l = -lexI l m
  | [], [] => rfl
  | [], _ :: _ => rfl
  | _ :: _, [] => rfl
  | a :: l, b :: m => by
    unfold lexI
    by_cases h1 : a < b
    · rw [if_neg (by omega), if_pos h1, if_pos h1]; rfl
    · by_cases h2 : b < a
      · rw [if_pos h2, if_neg h1, if_pos h2]
      · rw [if_neg h2, if_neg h1, if_neg h1, if_neg h2]; exact lexI_anti l m
theorem lexI_eq : ∀ {l m}, lexI l m = 0 → l = m
  | [], [], _ => rfl
  | [], _ :: _, h => by simp [lexI] at h
  | _ :: _, [], h => by simp [lexI] at h
  | a :: l, b :: m, h => by
    unfold lexI at h
    split at h
    · omega
    · split at h
      · omega
      · have : a = b := by omega
        rw [this, lexI_eq h]
theorem lexI_tr : ∀ {l m k}, lexI l m < 0 → lexI m k < 0 → lexI l k < 0
  | _, _, [], _, h => by
    rename_i m _
    cases m <;> simp [lexI] at h
  | [], _, _ :: _, _, _ => by simp [lexI]
  | _ :: _, [], _ :: _, h, _ => by simp [lexI] at h
  | a :: l, b :: m, c :: k, h1, h2 => by
    unfold lexI at h1 h2 ⊢
    by_cases e1 : a < b
    · by_cases e2 : b < c
      · rw [if_pos (by omega)]; omega
      · rw [if_neg e2] at h2
        by_cases e3 : c < b
        · rw [if_pos e3] at h2; omega
        · rw [if_pos (by omega)]; omega
    · rw [if_neg e1] at h1
      by_cases e3 : b < a
      · rw [if_pos e3] at h1; omega
      · rw [if_neg e3] at h1
        have e : a = b := by omega
        subst e
        by_cases e2 : a < c
        · rw [if_pos e2]; omega
        · rw [if_neg e2] at h2 ⊢
          by_cases e4 : c < a
          · rw [if_pos e4] at h2; omega
          · rw [if_neg e4] at h2 ⊢
            exact lexI_tr h1 h2
/-- Which of two cuts comes first: that with fewer outcomes, then number by number. -/
def cfL (l m : List Nat) : Int := orI (cmpI l.length m.length) (lexI l m)
theorem cfL_lt {l m : List Nat} : cfL l m < 0 ↔ l.length < m.length ∨ (l.length = m.length ∧ lexI l m < 0) := by
  unfold cfL orI cmpI
  by_cases h1 : (l.length : Int) < m.length
  · rw [if_pos h1]; simp; omega
  · rw [if_neg h1]
    by_cases h2 : (m.length : Int) < l.length
    · rw [if_pos h2]; simp; omega
    · rw [if_neg h2]; simp; omega
theorem cfL_zero {l m : List Nat} : cfL l m = 0 ↔ l = m := by
  unfold cfL orI cmpI
  constructor
  · intro h
    by_cases h1 : (l.length : Int) < m.length
    · rw [if_pos h1] at h; simp at h
    · rw [if_neg h1] at h
      by_cases h2 : (m.length : Int) < l.length
      · rw [if_pos h2] at h; simp at h
      · rw [if_neg h2] at h; simp at h; exact lexI_eq h
  · rintro rfl
    simp [lexI_self]
theorem cfL_gt {l m : List Nat} : 0 < cfL l m ↔ cfL m l < 0 := by
  rw [cfL_lt, lexI_anti l m]
  unfold cfL orI cmpI
  by_cases h1 : (l.length : Int) < m.length
  · rw [if_pos h1]; simp; omega
  · rw [if_neg h1]
    by_cases h2 : (m.length : Int) < l.length
    · rw [if_pos h2]; simp; omega
    · rw [if_neg h2]; simp; omega
theorem cfL_tr {l m k : List Nat} (h1 : cfL l m < 0) (h2 : cfL m k < 0) : cfL l k < 0 := by
  rw [cfL_lt] at *
  rcases h1 with h1 | ⟨h1, h3⟩
  · rcases h2 with h2 | ⟨h2, h4⟩ <;> left <;> omega
  · rcases h2 with h2 | ⟨h2, h4⟩
    · left; omega
    · right; exact ⟨by omega, lexI_tr h3 h4⟩
theorem cfL_le {l m k : List Nat} (h1 : cfL l m ≤ 0) (h2 : cfL m k ≤ 0) : cfL l k ≤ 0 := by
  by_cases e1 : cfL l m = 0
  · rw [cfL_zero.1 e1]; exact h2
  · by_cases e2 : cfL m k = 0
    · rw [← cfL_zero.1 e2]; exact h1
    · have := cfL_tr (l := l) (m := m) (k := k) (by omega) (by omega); omega
theorem cfL_no {l m : List Nat} (h : ¬ cfL l m < 0) : cfL m l ≤ 0 := by
  by_cases e : cfL l m = 0
  · rw [cfL_zero.1 e, cfL_zero.2 rfl]; omega
  · have := cfL_gt.1 (show 0 < cfL l m by omega); omega

/-- The best one of the first M that are let: the greatest worth, and of those the first one. -/
structure IsBest (M : Nat) (P : Nat → Bool) (v : Nat → Int) (L : Nat → List Nat) (b : Nat) : Prop where
  lt : b < M
  ok : P b = true
  top : ∀ s, s < M → P s = true → v s < v b ∨ (v s = v b ∧ cfL (L b) (L s) ≤ 0)
theorem IsBest.unique {M : Nat} {P : Nat → Bool} {v : Nat → Int} {L : Nat → List Nat} {b c : Nat} (hL : ∀ s t, s < M → t < M → L s = L t → s = t) (h : IsBest M P v L b) (k : IsBest M P v L c) : b = c := by
  rcases h.top c k.lt k.ok with h1 | ⟨h1, h2⟩ <;> rcases k.top b h.lt h.ok with k1 | ⟨k1, k2⟩
  · omega
  · omega
  · omega
  · refine hL b c h.lt k.lt (cfL_zero.1 ?_)
    by_cases e : cfL (L b) (L c) < 0
    · have := cfL_gt.2 e; omega
    · omega
theorem IsBest.max {M : Nat} {P : Nat → Bool} {v : Nat → Int} {L : Nat → List Nat} {b : Nat} (h : IsBest M P v L b) {s : Nat} (hs : s < M) (hp : P s = true) : v s ≤ v b := by
  rcases h.top s hs hp with h1 | ⟨h1, _⟩ <;> omega

/-- The reference's best one of the first k. -/
def bestR (P : Nat → Bool) (v : Nat → Int) (L : Nat → List Nat) : Nat → Nat
  | 0 => 0
  | k + 1 => if P k = true ∧ (v (bestR P v L k) < v k ∨ (v k = v (bestR P v L k) ∧ cfL (L k) (L (bestR P v L k)) < 0)) then k else bestR P v L k
theorem bestR_is {P : Nat → Bool} {v : Nat → Int} {L : Nat → List Nat} (h0 : P 0 = true) : ∀ k, IsBest (k + 1) P v L (bestR P v L (k + 1))
  | 0 => by
    have e : bestR P v L 1 = 0 := by
      show (if P 0 = true ∧ _ then 0 else 0) = 0
      split <;> rfl
    rw [e]
    refine ⟨by omega, h0, fun s hs _ => ?_⟩
    obtain rfl : s = 0 := by omega
    exact .inr ⟨rfl, by rw [cfL_zero.2 rfl]; omega⟩
  | k + 1 => by
    have ih := bestR_is (P := P) (v := v) (L := L) h0 k
    show IsBest (k + 2) P v L (if P (k + 1) = true ∧ _ then k + 1 else bestR P v L (k + 1))
    generalize bestR P v L (k + 1) = b at *
    by_cases hc : P (k + 1) = true ∧ (v b < v (k + 1) ∨ (v (k + 1) = v b ∧ cfL (L (k + 1)) (L b) < 0))
    · rw [if_pos hc]
      obtain ⟨hp, hc⟩ := hc
      refine ⟨by omega, hp, fun s hs hps => ?_⟩
      by_cases e : s = k + 1
      · subst e; exact .inr ⟨rfl, by rw [cfL_zero.2 rfl]; omega⟩
      · rcases ih.top s (by omega) hps with h1 | ⟨h1, h2⟩ <;> rcases hc with c1 | ⟨c1, c2⟩
        · exact .inl (by omega)
        · exact .inl (by omega)
        · exact .inl (by omega)
        · exact .inr ⟨by omega, cfL_le (Int.le_of_lt c2) h2⟩
    · rw [if_neg hc]
      have lb := ih.lt
      refine ⟨by omega, ih.ok, fun s hs hps => ?_⟩
      by_cases e : s = k + 1
      · subst e
        by_cases c1 : v b < v (k + 1)
        · exact absurd ⟨hps, .inl c1⟩ hc
        · by_cases c2 : v (k + 1) = v b
          · exact .inr ⟨c2, cfL_no fun c3 => hc ⟨hps, .inr ⟨c2, c3⟩⟩⟩
          · exact .inl (by omega)
      · exact ih.top s (by omega) hps
/-- The first one with the greatest worth, of a row. -/
def bestO (P : Nat → Bool) (v : Nat → Int) : List Nat → Option Nat → Option Nat
  | [], o => o
  | s :: r, none => bestO P v r (if P s then some s else none)
  | s :: r, some b => bestO P v r (if P s = true ∧ v b < v s then some s else some b)
/-- One more. -/
def stepO (P : Nat → Bool) (v : Nat → Int) (o : Option Nat) (s : Nat) : Option Nat :=
  match o with
  | none => if P s then some s else none
  | some b => if P s = true ∧ v b < v s then some s else some b
def foldO (P : Nat → Bool) (v : Nat → Int) (l : List Nat) : Option Nat := l.foldl (stepO P v) none
theorem foldO_snoc (P : Nat → Bool) (v : Nat → Int) (l : List Nat) (s : Nat) : foldO P v (l ++ [s]) = stepO P v (foldO P v l) s := by
  unfold foldO; rw [List.foldl_append]; rfl
theorem foldO_is {P : Nat → Bool} {v : Nat → Int} {L : Nat → List Nat} : ∀ {r : List Nat}, r.Pairwise (fun s t => cfL (L s) (L t) ≤ 0) →
    (match foldO P v r.reverse.reverse with
      | none => ∀ s, s ∈ r → P s = false
      | some b => b ∈ r ∧ P b = true ∧ ∀ s, s ∈ r → P s = true → v s < v b ∨ (v s = v b ∧ cfL (L b) (L s) ≤ 0)) := by
  intro r
  rw [List.reverse_reverse]
  induction hr : r.length generalizing r with
  | zero =>
    intro _
    rw [List.length_eq_zero_iff.1 hr]
    intro s hs; cases hs
  | succ k ih =>
    intro hp
    obtain ⟨l, s, rfl⟩ : ∃ l s, r = l ++ [s] := by
      rcases List.eq_nil_or_concat r with e | ⟨l, s, e⟩
      · rw [e] at hr; cases hr
      · exact ⟨l, s, by rw [e, List.concat_eq_append]⟩
    rw [List.pairwise_append] at hp
    obtain ⟨hp1, _, hp3⟩ := hp
    have ih := ih (r := l) (by simp at hr; exact hr) hp1
    rw [foldO_snoc]
    generalize foldO P v l = o at *
    cases o with
    | none =>
      have ih : ∀ s, s ∈ l → P s = false := ih
      show (match (if P s then some s else none) with | none => _ | some b => _)
      by_cases hs : P s = true
      · rw [if_pos hs]
        refine ⟨by simp, hs, fun t ht hpt => ?_⟩
        rcases List.mem_append.1 ht with h | h
        · rw [ih t h] at hpt; cases hpt
        · have : t = s := by simpa using h
          subst this
          exact .inr ⟨rfl, by rw [cfL_zero.2 rfl]; omega⟩
      · rw [if_neg hs]
        intro t ht
        rcases List.mem_append.1 ht with h | h
        · exact ih t h
        · have : t = s := by simpa using h
          subst this
          exact Bool.eq_false_iff.2 hs
    | some b =>
      obtain ⟨h1, h2, h3⟩ : b ∈ l ∧ P b = true ∧ ∀ s, s ∈ l → P s = true → v s < v b ∨ (v s = v b ∧ cfL (L b) (L s) ≤ 0) := ih
      show (match (if P s = true ∧ v b < v s then some s else some b) with | none => _ | some b => _)
      by_cases hs : P s = true ∧ v b < v s
      · rw [if_pos hs]
        refine ⟨by simp, hs.1, fun t ht hpt => ?_⟩
        rcases List.mem_append.1 ht with h | h
        · rcases h3 t h hpt with k1 | ⟨k1, _⟩ <;> exact .inl (by omega)
        · have : t = s := by simpa using h
          subst this
          exact .inr ⟨rfl, by rw [cfL_zero.2 rfl]; omega⟩
      · rw [if_neg hs]
        refine ⟨List.mem_append_left _ h1, h2, fun t ht hpt => ?_⟩
        rcases List.mem_append.1 ht with h | h
        · exact h3 t h hpt
        · have : t = s := by simpa using h
          subst this
          by_cases c : v t = v b
          · exact .inr ⟨c, hp3 b h1 t (by simp)⟩
          · exact .inl (by have : ¬ v b < v t := fun e => hs ⟨hpt, e⟩; omega)
theorem foldO_best {M : Nat} {P : Nat → Bool} {v : Nat → Int} {L : Nat → List Nat} {r : List Nat} (hp : r.Pairwise (fun s t => cfL (L s) (L t) ≤ 0)) (hm : ∀ s, s ∈ r ↔ s < M) (h0 : P 0 = true) (hM : 0 < M) :
    ∃ b, foldO P v r = some b ∧ IsBest M P v L b := by
  have h := foldO_is (P := P) (v := v) hp
  rw [List.reverse_reverse] at h
  cases e : foldO P v r with
  | none =>
    rw [e] at h
    have := (show ∀ s, s ∈ r → P s = false from h) 0 ((hm 0).2 hM)
    rw [h0] at this; cases this
  | some b =>
    rw [e] at h
    obtain ⟨h1, h2, h3⟩ := h
    exact ⟨b, rfl, (hm b).1 h1, h2, fun s hs => h3 s ((hm s).2 hs)⟩

end Go.Proofs.YtohcnicadbpbbaaGreatDoor
