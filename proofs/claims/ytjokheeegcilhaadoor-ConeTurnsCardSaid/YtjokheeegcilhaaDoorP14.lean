/- The threads of a matching: each hit is in just one; and lists that have each hit once are at least as many as a layer has hits. -/
import Derived.Test.YtjokheeegcilhaaDoorPB
import Derived.Test.YtjokheeegcilhaaDoorCow
import Derived.Test.YtjokheeegcilhaaDoorW1
namespace Go.Proofs.YtjokheeegcilhaaDoor
open Go.Firn

/-! ## Paths -/

/-- L begins with i, goes on with what follows, and ends where none follows. -/
def Pth (nx : Nat → Int) : Nat → List Nat → Prop
  | _, [] => False
  | i, x :: l => x = i ∧ ((l = [] ∧ nx i < 0) ∨ ∃ c : Nat, nx i = (c : Nat) ∧ Pth nx c l)
def pathF (nx : Nat → Int) : Nat → Nat → List Nat
  | 0, i => [i]
  | f + 1, i => i :: if nx i < 0 then [] else pathF nx f (nx i).toNat

/-- How many hits are later. -/
def later (n : Nat) (T : Nat → Int) (i : Nat) : Nat := cnt (fun y => decide (T i < T y)) n
theorem later_lt {n : Nat} {T : Nat → Int} {i c : Nat} (hc : c < n) (h : T i < T c) : later n T c < later n T i := by
  unfold later
  rw [cnt_one_less (q := fun y => decide (T i < T y)) hc (decide_eq_true h)]
  refine Nat.lt_succ_of_le (cnt_mono fun y _ hy => ?_)
  have hy' : T c < T y := of_decide_eq_true hy
  have : y ≠ c := fun e => by subst e; omega
  simp [this]; omega

theorem path_pth {n : Nat} {P T nx pv : Nat → Int} (M : Mt n (bf P T) nx pv) : ∀ (f i : Nat), i < n → later n T i ≤ f → Pth nx i (pathF nx f i) := by
  intro f
  induction f with
  | zero =>
    intro i hi h
    refine ⟨rfl, .inl ⟨rfl, ?_⟩⟩
    rcases Int.lt_or_le (nx i) 0 with k | k
    · exact k
    · obtain ⟨c, h1, _, _, h4⟩ := M.fwd i hi k
      have := later_lt h1 (bf_time h4)
      omega
  | succ f ih =>
    intro i hi h
    rw [pathF]
    refine ⟨rfl, ?_⟩
    split
    · rename_i k; exact .inl ⟨rfl, k⟩
    · rename_i k
      obtain ⟨c, h1, h2, _, h4⟩ := M.fwd i hi (by omega)
      have := later_lt h1 (bf_time h4)
      exact .inr ⟨c, h2, by rw [h2, Int.toNat_natCast]; exact ih c h1 (by omega)⟩
theorem path_len (nx : Nat → Int) : ∀ (f i : Nat), (pathF nx f i).length ≤ f + 1
  | 0, _ => Nat.le_refl _
  | f + 1, i => by
    rw [pathF]
    split
    · simp
    · have := path_len nx f (nx i).toNat; simp; omega

theorem Pth.pos {nx : Nat → Int} {i : Nat} {L : List Nat} (h : Pth nx i L) : 1 ≤ L.length ∧ L.getD 0 0 = i := by
  cases L with
  | nil => exact h.elim
  | cons x l => exact ⟨by simp, h.1⟩
theorem Pth.step {nx : Nat → Int} : ∀ {L : List Nat} {i j : Nat}, Pth nx i L → j < L.length → (j + 1 < L.length → nx (L.getD j 0) = (L.getD (j + 1) 0 : Nat)) ∧ (j + 1 = L.length → nx (L.getD j 0) < 0)
  | [], _, _, h, _ => h.elim
  | x :: l, i, j, h, hj => by
    obtain ⟨rfl, h⟩ := h
    cases j with
    | zero =>
      rcases h with ⟨rfl, h⟩ | ⟨c, h1, h2⟩
      · exact ⟨fun k => by simp at k, fun _ => h⟩
      · obtain ⟨k1, k2⟩ := h2.pos
        refine ⟨fun _ => ?_, fun k => by simp only [List.length_cons] at k; omega⟩
        show nx x = ((x :: l).getD 1 0 : Nat)
        rw [h1]
        congr 1
        rw [← k2]; simp [List.getD]
    | succ j =>
      rcases h with ⟨rfl, h⟩ | ⟨c, h1, h2⟩
      · simp at hj
      · have := h2.step (j := j) (by simpa using hj)
        simpa [List.getD] using this
theorem Pth.lt {n : Nat} {B : Nat → Nat → Bool} {nx pv : Nat → Int} (M : Mt n B nx pv) : ∀ {L : List Nat} {i : Nat}, i < n → Pth nx i L → ∀ x ∈ L, x < n
  | [], _, _, h, _, _ => h.elim
  | y :: l, i, hi, h, x, hx => by
    obtain ⟨rfl, h⟩ := h
    rcases List.mem_cons.1 hx with e | hx
    · subst e; exact hi
    · rcases h with ⟨rfl, _⟩ | ⟨c, h1, h2⟩
      · cases hx
      · obtain ⟨c', k1, k2, _⟩ := M.fwd y hi (by omega)
        have : c' = c := by omega
        subst this
        exact h2.lt M k1 x hx
theorem Pth.count {n : Nat} {B : Nat → Nat → Bool} {nx pv : Nat → Int} (M : Mt n B nx pv) : ∀ {L : List Nat} {i : Nat}, i < n → Pth nx i L → ∀ x, x < n → L.count x = (if i = x then 1 else 0) + (if 0 ≤ pv x then L.count (pv x).toNat else 0)
  | [], _, _, h, _, _ => h.elim
  | y :: l, i, hi, h, x, hx => by
    obtain ⟨rfl, h⟩ := h
    rcases h with ⟨rfl, h⟩ | ⟨c, h1, h2⟩
    · rw [List.count_cons, List.count_nil]
      by_cases hp : 0 ≤ pv x
      · obtain ⟨a, k1, k2, k3⟩ := M.bwd x hx hp
        rw [if_pos hp, k2, Int.toNat_natCast, List.count_cons, List.count_nil]
        have : y ≠ a := fun e => by subst e; omega
        simp [this]
      · rw [if_neg hp]; simp
    · obtain ⟨c', k1, k2, k3, _⟩ := M.fwd y hi (by omega)
      have : c' = c := by omega
      subst this
      have ih := h2.count M k1 x hx
      rw [List.count_cons, ih]
      by_cases hp : 0 ≤ pv x
      · obtain ⟨a, l1, l2, l3⟩ := M.bwd x hx hp
        rw [if_pos hp, if_pos hp, l2, Int.toNat_natCast, List.count_cons]
        by_cases e : c' = x
        · subst e
          have : a = y := by omega
          subst this
          simp; omega
        · have : y ≠ a := fun e2 => by subst e2; omega
          simp [this, e]; omega
      · rw [if_neg hp, if_neg hp]
        have : c' ≠ x := fun e => by subst e; omega
        simp [this]

theorem occ1_count (L : List Nat) (x : Nat) : ∀ j, j ≤ L.length → occ1 (nf L) j x = (L.take j).count x := by
  intro j
  induction j with
  | zero => intro _; simp [occ1]
  | succ j ih =>
    intro hj
    have e : L.getD j 0 = L[j] := by rw [List.getD, List.getElem?_eq_getElem (by omega)]; rfl
    rw [occ1, ih (by omega), List.take_succ_eq_append_getElem (by omega), List.count_append, List.count_singleton, nf, e]
    congr 1
    by_cases h : L[j] = x
    · simp [h]
    · have : ¬ ((L[j] : Nat) : Int) = (x : Int) := by omega
      rw [if_neg this]
      simp [h]

theorem occ_snoc (tb : List (List Nat)) (l : List Nat) (i x : Nat) (hi : i ≤ tb.length) : occ (tr nf (tb ++ [l])) i x = occ (tr nf tb) i x := by
  induction i with
  | zero => rfl
  | succ i ih =>
    have e : tr nf (tb ++ [l]) i = tr nf tb i := by
      unfold tr
      rw [List.getD, List.getD, List.getElem?_append_left (by omega)]
    rw [occ, occ, ih (by omega), e]
theorem occ_flat (tb : List (List Nat)) (x : Nat) : occ (tr nf tb) tb.length x = tb.flatten.count x := by
  have : ∀ m, ∀ tb : List (List Nat), tb.length = m → occ (tr nf tb) tb.length x = tb.flatten.count x := by
    intro m
    induction m with
    | zero => intro tb h; obtain rfl := List.eq_nil_of_length_eq_zero h; rfl
    | succ m ih =>
      intro tb h
      have hne : tb ≠ [] := fun e => by subst e; simp at h
      obtain ⟨ts, l, rfl⟩ : ∃ ts l, tb = ts ++ [l] := ⟨tb.dropLast, tb.getLast hne, (List.dropLast_concat_getLast hne).symm⟩
      have h2 : ts.length = m := by simp at h; exact h
      rw [List.length_append, List.length_singleton, occ, occ_snoc ts l _ x (Nat.le_refl _), ih ts h2, List.flatten_append, List.count_append]
      congr 1
      have e : tr nf (ts ++ [l]) ts.length = (l.length, nf l) := by
        unfold tr
        rw [List.getD, List.getElem?_append_right (Nat.le_refl _)]
        simp
      rw [e]
      show occ1 (nf l) l.length x = _
      rw [occ1_count l x _ (Nat.le_refl _), List.take_length]
      simp
  exact this _ tb rfl

/-! ## The threads -/

/-- The threads of a matching. -/
def thr (n : Nat) (nx pv : Nat → Int) (k : Nat) : List (List Nat) := (els (fun x => decide (pv x < 0)) k).map (pathF nx n)
theorem thr_length (n : Nat) (nx pv : Nat → Int) (k : Nat) : (thr n nx pv k).length = cnt (fun x => decide (pv x < 0)) k := by unfold thr; rw [List.length_map, els_length]
theorem thr_succ (n : Nat) (nx pv : Nat → Int) (k : Nat) : thr n nx pv (k + 1) = thr n nx pv k ++ (if pv k < 0 then [pathF nx n k] else []) := by
  unfold thr
  rw [els_succ, List.map_append]
  congr 1
  by_cases h : pv k < 0
  · simp [h]
  · simp [h]

theorem later_le (n : Nat) (T : Nat → Int) (i : Nat) : later n T i ≤ n := cnt_le _ _

theorem thr_count {n : Nat} {P T nx pv : Nat → Int} (M : Mt n (bf P T) nx pv) {x : Nat} (hx : x < n) :
    (thr n nx pv n).flatten.count x = (if pv x < 0 then 1 else 0) + (if 0 ≤ pv x then (thr n nx pv n).flatten.count (pv x).toNat else 0) := by
  have key : ∀ rt : List Nat, (∀ i ∈ rt, i < n) → (rt.map (pathF nx n)).flatten.count x = rt.count x + (if 0 ≤ pv x then (rt.map (pathF nx n)).flatten.count (pv x).toNat else 0) := by
    intro rt
    induction rt with
    | nil => intro _; simp
    | cons i rt ih =>
      intro h
      have hi := h i (by simp)
      have h1 := (path_pth M n i hi (later_le n T i)).count M hi x hx
      have h2 := ih fun j hj => h j (by simp [hj])
      rw [List.map_cons, List.flatten_cons, List.count_append, h1, h2, List.count_cons, List.count_append]
      by_cases hp : 0 ≤ pv x
      · simp only [if_pos hp]
        by_cases e : i = x
        · simp [e]; omega
        · simp [e]; omega
      · simp only [if_neg hp]
        by_cases e : i = x
        · simp [e]; omega
        · simp [e]
  have := key (els (fun x => decide (pv x < 0)) n) (fun i hi => (els_mem.1 hi).1)
  unfold thr
  rw [this]
  congr 1
  have nd : ∀ k, (els (fun x => decide (pv x < 0)) k).count x = if x < k ∧ pv x < 0 then 1 else 0 := by
    intro k
    induction k with
    | zero => rw [els_zero]; simp
    | succ k ih =>
      rw [els_succ, List.count_append, ih]
      by_cases e : x = k
      · subst e
        by_cases hp : pv x < 0
        · simp [hp]
        · simp [hp]
      · have e2 : (if x < k + 1 ∧ pv x < 0 then (1 : Nat) else 0) = if x < k ∧ pv x < 0 then 1 else 0 := by
          by_cases h : x < k ∧ pv x < 0
          · rw [if_pos h, if_pos ⟨by omega, h.2⟩]
          · rw [if_neg h, if_neg (fun h2 => h ⟨by omega, h2.2⟩)]
        rw [e2]
        by_cases hp : pv k < 0
        · simp only [hp, decide_true, if_true, List.count_singleton]
          have : ¬ k = x := fun h => e h.symm
          simp [this]
        · simp [hp]
  rw [nd]
  simp [hx]

/-- How many hits are earlier. -/
def earlier (n : Nat) (T : Nat → Int) (i : Nat) : Nat := cnt (fun y => decide (T y < T i)) n
theorem earlier_lt {n : Nat} {T : Nat → Int} {i c : Nat} (hi : i < n) (h : T i < T c) : earlier n T i < earlier n T c := by
  unfold earlier
  rw [cnt_one_less (q := fun y => decide (T y < T c)) hi (decide_eq_true h)]
  refine Nat.lt_succ_of_le (cnt_mono fun y _ hy => ?_)
  have hy' : T y < T i := of_decide_eq_true hy
  have : y ≠ i := fun e => by subst e; omega
  simp [this]; omega

/-- Each hit is in the threads just once. -/
theorem thr_once {n : Nat} {P T nx pv : Nat → Int} (M : Mt n (bf P T) nx pv) : ∀ (f x : Nat), earlier n T x < f → x < n → (thr n nx pv n).flatten.count x = 1 := by
  intro f
  induction f with
  | zero => intro x h; omega
  | succ f ih =>
    intro x h hx
    rw [thr_count M hx]
    by_cases hp : 0 ≤ pv x
    · obtain ⟨a, k1, k2, k3⟩ := M.bwd x hx hp
      obtain ⟨c, l1, l2, l3, l4⟩ := M.fwd a k1 (by omega)
      have : c = x := by omega
      subst this
      have := earlier_lt k1 (bf_time l4)
      rw [if_pos hp, if_neg (by omega), k2, Int.toNat_natCast, ih a (by omega) k1]
    · rw [if_neg hp, if_pos (by omega)]

theorem Pth.chain {n : Nat} {P T nx pv : Nat → Int} (M : Mt n (bf P T) nx pv) {L : List Nat} {i : Nat} (hi : i < n) (h : Pth nx i L) (hl : L.length ≤ 50) : chnB n P T L.length (nf L) = true := by
  have ht : ∀ j, j < L.length → L.getD j 0 < n := fun j hj => h.lt M hi _ (by rw [List.getD, List.getElem?_eq_getElem hj]; exact List.getElem_mem hj)
  have hk : chnK n P T (nf L) L.length = true := by
    unfold chnK
    rw [List.all_eq_true]
    intro k hk
    have hk' := List.mem_range.1 hk
    unfold chnAt
    rw [Bool.and_eq_true]
    constructor
    · have := ht k hk'
      unfold inH nf
      simp only [Bool.and_eq_true, decide_eq_true_eq]
      omega
    · by_cases e : k = 0
      · simp [e]
      · have h1 := (h.step (j := k - 1) (by omega)).1 (by omega)
        rw [show k - 1 + 1 = k by omega] at h1
        obtain ⟨c, l1, l2, l3, l4⟩ := M.fwd (L.getD (k - 1) 0) (ht _ (by omega)) (by omega)
        have : c = L.getD k 0 := by omega
        subst this
        unfold nf
        simp only [Int.toNat_natCast]
        rw [l4]; simp
  unfold chnB
  rw [hk]
  have := h.pos.1
  simp; omega

/-- The threads are threads. -/
theorem thr_are {n : Nat} {P T nx pv : Nat → Int} (hn : n ≤ 14) (M : Mt n (bf P T) nx pv) : areB n (chnB n P T) (thr n nx pv n).length (tr nf (thr n nx pv n)) = true := by
  have hl : (thr n nx pv n).length ≤ n := by rw [thr_length]; exact cnt_le _ _
  have hk : kindK (chnB n P T) (tr nf (thr n nx pv n)) (thr n nx pv n).length = true := by
    unfold kindK
    rw [List.all_eq_true]
    intro i hi
    have hi' := List.mem_range.1 hi
    have e : (thr n nx pv n).getD i [] ∈ thr n nx pv n := by rw [List.getD, List.getElem?_eq_getElem hi']; exact List.getElem_mem hi'
    obtain ⟨y, hy, e2⟩ := List.mem_map.1 e
    have hy' := (els_mem.1 hy).1
    show chnB n P T ((thr n nx pv n).getD i []).length (nf ((thr n nx pv n).getD i [])) = true
    rw [← e2]
    exact (path_pth M n y hy' (later_le n T y)).chain M hy' (by have := path_len nx n y; omega)
  rw [areB_done hk]
  have : onceB n (thr n nx pv n).length (tr nf (thr n nx pv n)) = true := by
    unfold onceB
    rw [List.all_eq_true]
    intro x hx
    rw [occ_flat, thr_once M (earlier n T x + 1) x (by omega) (List.mem_range.1 hx)]
    rfl
  rw [this]
  simp; omega

/-! ## Lists that have each hit once -/

theorem occ1_mem {l : Nat → Int} {x : Nat} : ∀ {m : Nat}, 0 < occ1 l m x → ∃ j, j < m ∧ l j = (x : Int)
  | 0, h => by simp [occ1] at h
  | m + 1, h => by
    rw [occ1] at h
    by_cases e : l m = (x : Int)
    · exact ⟨m, by omega, e⟩
    · rw [if_neg e] at h
      obtain ⟨j, hj, he⟩ := occ1_mem (l := l) (x := x) (m := m) (by omega)
      exact ⟨j, by omega, he⟩
theorem occ_mem {r : Nat → Nat × (Nat → Int)} {x : Nat} : ∀ {i : Nat}, 0 < occ r i x → ∃ k j, k < i ∧ j < (r k).1 ∧ (r k).2 j = (x : Int)
  | 0, h => by simp [occ] at h
  | i + 1, h => by
    rw [occ] at h
    rcases Nat.eq_zero_or_pos (occ1 (r i).2 (r i).1 x) with e | e
    · obtain ⟨k, j, h1, h2, h3⟩ := occ_mem (r := r) (x := x) (i := i) (by omega)
      exact ⟨k, j, by omega, h2, h3⟩
    · obtain ⟨j, h2, h3⟩ := occ1_mem e
      exact ⟨i, j, by omega, h2, h3⟩

/-- A set of hits of which no two are of one list is no larger than the lists are many. -/
theorem areB_bound {n : Nat} {B : Nat → (Nat → Int) → Bool} {N : Nat} {r : Nat → Nat × (Nat → Int)} (h : areB n B N r = true) (p : Nat → Bool)
    (hp : ∀ i, i < N → B (r i).1 (r i).2 = true → ∀ j k x y, j < (r i).1 → k < (r i).1 → (r i).2 j = ((x : Nat) : Int) → (r i).2 k = ((y : Nat) : Int) → x < n → y < n → p x = true → p y = true → x = y) : cnt p n ≤ N := by
  unfold areB at h
  simp only [Bool.and_eq_true] at h
  obtain ⟨⟨_, hk⟩, ho⟩ := h
  have hx : ∀ x, x < n → ∃ k j, k < N ∧ j < (r k).1 ∧ (r k).2 j = (x : Int) := fun x hx => by
    unfold onceB at ho
    have := of_decide_eq_true (List.all_eq_true.1 ho x (List.mem_range.2 hx))
    exact occ_mem (by omega)
  classical
  let f : Nat → Nat := fun x => if h : x < n then Classical.choose (hx x h) else 0
  have hf : ∀ x (h : x < n), f x < N ∧ ∃ j, j < (r (f x)).1 ∧ (r (f x)).2 j = (x : Int) := fun x h => by
    have e : f x = Classical.choose (hx x h) := dif_pos h
    rw [e]
    obtain ⟨j, h1, h2, h3⟩ := Classical.choose_spec (hx x h)
    exact ⟨h1, j, h2, h3⟩
  have := cnt_inj f n N p (fun _ => true) (fun i hi _ => ⟨(hf i hi).1, rfl⟩) (fun i hi hpi j hj hpj e => by
    obtain ⟨h1, a, h2, h3⟩ := hf i hi
    obtain ⟨_, b, h4, h5⟩ := hf j hj
    rw [← e] at h4 h5
    exact hp (f i) h1 (List.all_eq_true.1 hk _ (List.mem_range.2 h1)) a b i j h2 h4 h3 h5 hi hj hpi hpj)
  rw [cnt_true] at this
  exact this

/-- What is further on in a chain is later. -/
theorem chnK_lt {n : Nat} {P T : Nat → Int} {l : Nat → Int} {m j : Nat} (h : chnK n P T l m = true) : ∀ {k : Nat}, j < k → k < m → bf P T (l j).toNat (l k).toNat = true := by
  intro k hjk
  induction k with
  | zero => omega
  | succ k ih =>
    intro hk
    have h1 := chnK_bf h (j := k) (by omega)
    by_cases e : j = k
    · subst e; exact h1
    · exact bf_trans (ih (by omega) (by omega)) h1

/-- A layer has no more hits than there are threads. -/
theorem threads_bound {n : Nat} {P T : Nat → Int} {N : Nat} {r : Nat → Nat × (Nat → Int)} (h : areB n (chnB n P T) N r = true) {p : Nat → Bool} (hp : Free n (cmpd P T) p) : cnt p n ≤ N :=
  areB_bound h p fun i _ hb j k x y hj hk ex ey hx hy px py => by
    unfold chnB at hb
    simp only [Bool.and_eq_true] at hb
    have hc := hb.1.1
    rcases Nat.lt_trichotomy j k with e | e | e
    · have h1 := chnK_lt hc e hk
      rw [ex, ey, Int.toNat_natCast, Int.toNat_natCast] at h1
      have := hp x hx px y hy py
      unfold cmpd at this
      rw [h1] at this; cases this
    · subst e; omega
    · have h1 := chnK_lt hc e hj
      rw [ex, ey, Int.toNat_natCast, Int.toNat_natCast] at h1
      have := hp x hx px y hy py
      unfold cmpd at this
      rw [h1] at this; simp at this

/-- The threads are as many as the longest layer has hits. -/
theorem thr_layer {n : Nat} {P T nx pv : Nat → Int} (hn : n ≤ 14) (K : Kuhn n (bf P T) nx pv n) : (thr n nx pv n).length = (layL n P T).length := by
  obtain ⟨p, h1, h2⟩ := K.layer
  obtain ⟨⟨q, h3, h4⟩, h5⟩ := layL_best (n := n) (P := P) (T := T)
  have h6 := h5 p h1
  have h7 := threads_bound (thr_are hn K.1) h3
  rw [thr_length] at *
  omega

end Go.Proofs.YtjokheeegcilhaaDoor
