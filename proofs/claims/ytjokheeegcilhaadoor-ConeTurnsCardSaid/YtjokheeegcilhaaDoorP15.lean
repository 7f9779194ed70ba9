/- Heights, the longest chain, and that there are as many layers as it has hits; lists, layers and chains bound each other. -/
import Derived.Test.YtjokheeegcilhaaDoorP14
namespace Go.Proofs.YtjokheeegcilhaaDoor
open Go.Firn

/-! ## Heights -/

/-- The greatest of the first j numbers, or 0. -/
def mx (f : Nat → Nat) : Nat → Nat
  | 0 => 0
  | j + 1 => max (mx f j) (f j)
theorem mx_le (f : Nat → Nat) {j k : Nat} (h : j < k) : f j ≤ mx f k := by
  induction k with
  | zero => omega
  | succ k ih =>
    rw [mx]
    by_cases e : j = k
    · subst e; exact Nat.le_max_right _ _
    · exact Nat.le_trans (ih (by omega)) (Nat.le_max_left _ _)
theorem mx_at (f : Nat → Nat) {k : Nat} : mx f k = 0 ∨ ∃ j, j < k ∧ f j = mx f k := by
  induction k with
  | zero => exact .inl rfl
  | succ k ih =>
    rw [mx]
    rcases Nat.le_total (mx f k) (f k) with h | h
    · rw [Nat.max_eq_right h]; exact .inr ⟨k, by omega, rfl⟩
    · rw [Nat.max_eq_left h]
      rcases ih with e | ⟨j, hj, e⟩
      · exact .inl e
      · exact .inr ⟨j, by omega, e⟩
theorem mx_congr {f g : Nat → Nat} {k : Nat} (h : ∀ j, j < k → f j = g j) : mx f k = mx g k := by
  induction k with
  | zero => rfl
  | succ k ih => rw [mx, mx, ih fun j hj => h j (by omega), h k (by omega)]

/-- The hits behind a hit. -/
def futL (n : Nat) (P T : Nat → Int) (i : Nat) : List Nat := els (bf P T i) n
theorem futL_16 {n : Nat} {P T : Nat → Int} (hn : n ≤ 14) (i : Nat) : els (futM n P T i).testBit 16 = futL n P T i := by
  unfold futL
  rw [els_more (p := (futM n P T i).testBit) (n := n) (fun j hj => bit_ge (show futM n P T i < 2 ^ n from mk_lt _ n) hj) (by omega)]
  exact els_congr fun j hj => by
    unfold futM
    rw [mk_bit]
    simp [hj]
theorem futL_at {n : Nat} {P T : Nat → Int} {i q : Nat} (hq : q < (futL n P T i).length) : (futL n P T i).getD q 0 < n ∧ bf P T i ((futL n P T i).getD q 0) = true := els_lt hq
theorem futL_has {n : Nat} {P T : Nat → Int} {i k : Nat} (hk : k < n) (hb : bf P T i k = true) : ∃ q, q < (futL n P T i).length ∧ (futL n P T i).getD q 0 = k := by
  have : k ∈ futL n P T i := els_mem.2 ⟨hk, hb⟩
  obtain ⟨q, hq, e⟩ := List.getElem_of_mem this
  exact ⟨q, hq, by rw [List.getD, List.getElem?_eq_getElem hq]; exact e⟩

def htF (n : Nat) (P T : Nat → Int) : Nat → Nat → Nat
  | 0, _ => 1
  | f + 1, i => mx (fun q => htF n P T f ((futL n P T i).getD q 0)) (futL n P T i).length + 1
/-- How many hits the longest chain has that begins with a hit. -/
def ht (n : Nat) (P T : Nat → Int) (i : Nat) : Nat := htF n P T n i
theorem htF_same {n : Nat} {P T : Nat → Int} : ∀ (f g i : Nat), later n T i ≤ f → later n T i ≤ g → htF n P T f i = htF n P T g i := by
  intro f
  induction f with
  | zero =>
    intro g i hf _
    cases g with
    | zero => rfl
    | succ g =>
      have e : (futL n P T i).length = 0 := by
        rcases Nat.eq_zero_or_pos (futL n P T i).length with e | e
        · exact e
        · obtain ⟨h1, h2⟩ := futL_at e
          have := later_lt h1 (bf_time h2)
          omega
      rw [htF, htF, e, mx]
  | succ f ih =>
    intro g i hf hg
    cases g with
    | zero =>
      have e : (futL n P T i).length = 0 := by
        rcases Nat.eq_zero_or_pos (futL n P T i).length with e | e
        · exact e
        · obtain ⟨h1, h2⟩ := futL_at e
          have := later_lt h1 (bf_time h2)
          omega
      rw [htF, htF, e, mx]
    | succ g =>
      rw [htF, htF]
      congr 1
      refine mx_congr fun q hq => ?_
      obtain ⟨h1, h2⟩ := futL_at hq
      have := later_lt h1 (bf_time h2)
      exact ih g _ (by omega) (by omega)
theorem ht_eq {n : Nat} {P T : Nat → Int} (i : Nat) : ht n P T i = mx (fun q => ht n P T ((futL n P T i).getD q 0)) (futL n P T i).length + 1 := by
  show htF n P T n i = _
  rw [htF_same n (n + 1) i (later_le n T i) (Nat.le_trans (later_le n T i) (by omega)), htF]
  rfl
theorem ht_pos {n : Nat} {P T : Nat → Int} (i : Nat) : 1 ≤ ht n P T i := by rw [ht_eq]; omega
theorem ht_lt {n : Nat} {P T : Nat → Int} {i k : Nat} (hk : k < n) (hb : bf P T i k = true) : ht n P T k + 1 ≤ ht n P T i := by
  obtain ⟨q, hq, e⟩ := futL_has hk hb
  have := mx_le (fun q => ht n P T ((futL n P T i).getD q 0)) hq
  rw [ht_eq (i := i)]
  simp only [e] at this
  omega
theorem ht_next {n : Nat} {P T : Nat → Int} {i w : Nat} (h : ht n P T i = w + 2) : ∃ k, k < n ∧ bf P T i k = true ∧ ht n P T k = w + 1 := by
  rw [ht_eq] at h
  rcases mx_at (fun q => ht n P T ((futL n P T i).getD q 0)) (k := (futL n P T i).length) with e | ⟨q, hq, e⟩
  · omega
  · obtain ⟨h1, h2⟩ := futL_at hq
    exact ⟨_, h1, h2, by omega⟩
theorem ht_le {n : Nat} {P T : Nat → Int} {i : Nat} : ht n P T i ≤ later n T i + 1 := by
  have : ∀ f i, later n T i < f → ht n P T i ≤ later n T i + 1 := by
    intro f
    induction f with
    | zero => intro i h; omega
    | succ f ih =>
      intro i h
      rw [ht_eq]
      rcases mx_at (fun q => ht n P T ((futL n P T i).getD q 0)) (k := (futL n P T i).length) with e | ⟨q, hq, e⟩
      · omega
      · obtain ⟨h1, h2⟩ := futL_at hq
        have h3 := later_lt h1 (bf_time h2)
        have h4 := ih _ (by omega : later n T ((futL n P T i).getD q 0) < f)
        omega
  exact this _ i (Nat.lt_succ_self _)
theorem ht_n {n : Nat} {P T : Nat → Int} {i : Nat} : ht n P T i ≤ n + 1 := Nat.le_trans ht_le (by have := later_le n T i; omega)

/-! ## The longest chain -/

/-- The chain that comes first: of want hits, the first of them from fr. -/
def cF (n : Nat) (P T : Nat → Int) : Nat → (Nat → Bool) → List Nat
  | 0, _ => []
  | w + 1, fr => match (els fr n).find? (fun i => ht n P T i == w + 1) with
    | none => cF n P T w fr
    | some i => i :: cF n P T w (bf P T i)
/-- The greatest height. -/
def topH (n : Nat) (P T : Nat → Int) : Nat := mx (ht n P T) n
def chnL (n : Nat) (P T : Nat → Int) : List Nat := cF n P T (topH n P T) (fun _ => true)

theorem cF_good {n : Nat} {P T : Nat → Int} : ∀ (w : Nat) (fr : Nat → Bool), (w = 0 ∨ ∃ i, i < n ∧ fr i = true ∧ ht n P T i = w) →
    (cF n P T w fr).length = w ∧ (∀ x ∈ cF n P T w fr, x < n) ∧ (0 < w → fr ((cF n P T w fr).getD 0 0) = true) ∧ ∀ j, j + 1 < w → bf P T ((cF n P T w fr).getD j 0) ((cF n P T w fr).getD (j + 1) 0) = true := by
  intro w
  induction w with
  | zero => intro fr _; exact ⟨rfl, fun x hx => by simp [cF] at hx, fun h => by omega, fun j h => by omega⟩
  | succ w ih =>
    intro fr h
    obtain ⟨i, hi, hf, hw⟩ := h.resolve_left (by omega)
    rw [cF]
    cases e : (els fr n).find? (fun i => ht n P T i == w + 1) with
    | none =>
      rw [List.find?_eq_none] at e
      exact absurd (e i (els_mem.2 ⟨hi, hf⟩)) (by simp [hw])
    | some k =>
      have hk := els_mem.1 (List.mem_of_find?_eq_some e)
      have hkw : ht n P T k = w + 1 := by simpa using List.find?_some e
      obtain ⟨h1, h2, h3, h4⟩ := ih (bf P T k) (by
        cases w with
        | zero => exact .inl rfl
        | succ w => exact .inr (ht_next hkw))
      refine ⟨by simp [h1], fun x hx => ?_, fun _ => by simpa using hk.2, fun j hj => ?_⟩
      · rcases List.mem_cons.1 hx with e | hx
        · subst e; exact hk.1
        · exact h2 x hx
      · cases j with
        | zero => simpa [List.getD] using h3 (by omega)
        | succ j => simpa [List.getD] using h4 j (by omega)

theorem topH_ex {n : Nat} {P T : Nat → Int} (hn : 1 ≤ n) : 1 ≤ topH n P T ∧ ∃ i, i < n ∧ ht n P T i = topH n P T := by
  have h0 := mx_le (ht n P T) (show 0 < n by omega)
  have h1 := ht_pos (n := n) (P := P) (T := T) 0
  have h2 : 1 ≤ topH n P T := by unfold topH; omega
  refine ⟨h2, ?_⟩
  rcases mx_at (ht n P T) (k := n) with e | e
  · unfold topH at h2; omega
  · exact e
theorem topH_le {n : Nat} {P T : Nat → Int} : topH n P T ≤ n + 1 := by
  rcases mx_at (ht n P T) (k := n) with e | ⟨j, _, e⟩
  · unfold topH; omega
  · unfold topH; rw [← e]; exact ht_n

theorem chnL_good {n : Nat} {P T : Nat → Int} (hn : 1 ≤ n) : (chnL n P T).length = topH n P T ∧ (∀ x ∈ chnL n P T, x < n) ∧ ∀ j, j + 1 < topH n P T → bf P T ((chnL n P T).getD j 0) ((chnL n P T).getD (j + 1) 0) = true := by
  obtain ⟨_, i, hi, e⟩ := topH_ex (P := P) (T := T) hn
  obtain ⟨h1, h2, _, h4⟩ := cF_good (topH n P T) (fun _ => true) (.inr ⟨i, hi, rfl, e⟩)
  exact ⟨h1, h2, h4⟩
theorem getD_mem {L : List Nat} {j : Nat} (h : j < L.length) : L.getD j 0 ∈ L := by rw [List.getD, List.getElem?_eq_getElem h]; exact List.getElem_mem h

/-- The longest chain is a chain. -/
theorem chnL_chain {n : Nat} {P T : Nat → Int} (h1 : 1 ≤ n) (hn : n ≤ 14) : chnB n P T (chnL n P T).length (nf (chnL n P T)) = true := by
  obtain ⟨h2, h3, h4⟩ := chnL_good (P := P) (T := T) h1
  have h5 := (topH_ex (P := P) (T := T) h1).1
  have h6 := topH_le (n := n) (P := P) (T := T)
  have hk : chnK n P T (nf (chnL n P T)) (chnL n P T).length = true := by
    unfold chnK
    rw [List.all_eq_true]
    intro k hk
    have hk' := List.mem_range.1 hk
    unfold chnAt
    rw [Bool.and_eq_true]
    constructor
    · have := h3 _ (getD_mem hk')
      unfold inH nf
      simp only [Bool.and_eq_true, decide_eq_true_eq]
      omega
    · by_cases e : k = 0
      · simp [e]
      · have := h4 (k - 1) (by omega)
        rw [show k - 1 + 1 = k by omega] at this
        unfold nf
        simp only [Int.toNat_natCast]
        rw [this]; simp
  unfold chnB
  rw [hk, h2]
  simp; omega

/-! ## Lists that have each hit once, and lists of which no two are in one of them -/

/-- M hits of which no two are in one list are no more than the lists are many. -/
theorem areB_many_of {n : Nat} {B : Nat → (Nat → Int) → Bool} {N : Nat} {r : Nat → Nat × (Nat → Int)} (h : areB n B N r = true) (M : Nat) (g : Nat → Nat) (hg : ∀ j, j < M → g j < n)
    (hp : ∀ i, i < N → B (r i).1 (r i).2 = true → ∀ j k x y, j < (r i).1 → k < (r i).1 → x < M → y < M → (r i).2 j = ((g x : Nat) : Int) → (r i).2 k = ((g y : Nat) : Int) → x = y) : M ≤ N := by
  unfold areB at h
  simp only [Bool.and_eq_true] at h
  obtain ⟨⟨_, hk⟩, ho⟩ := h
  have hx : ∀ x, x < n → ∃ k j, k < N ∧ j < (r k).1 ∧ (r k).2 j = (x : Int) := fun x hx => by
    unfold onceB at ho
    have := of_decide_eq_true (List.all_eq_true.1 ho x (List.mem_range.2 hx))
    exact occ_mem (by omega)
  classical
  let f : Nat → Nat := fun x => if h : x < n then Classical.choose (hx x h) else 0
  have hf : ∀ x (h : x < n), f x < N ∧ ∃ j, j < (r (f x)).1 ∧ (r (f x)).2 j = (x : Int) := fun x h => by
    have e : f x = Classical.choose (hx x h) := dif_pos h
    rw [e]
    obtain ⟨j, h1, h2, h3⟩ := Classical.choose_spec (hx x h)
    exact ⟨h1, j, h2, h3⟩
  have := cnt_inj (fun x => f (g x)) M N (fun _ => true) (fun _ => true) (fun i hi _ => ⟨(hf (g i) (hg i hi)).1, rfl⟩) (fun i hi _ j hj _ e => by
    obtain ⟨h1, a, h2, h3⟩ := hf (g i) (hg i hi)
    obtain ⟨_, b, h4, h5⟩ := hf (g j) (hg j hj)
    have e : f (g i) = f (g j) := e
    rw [← e] at h4 h5
    exact hp (f (g i)) h1 (List.all_eq_true.1 hk _ (List.mem_range.2 h1)) a b i j h2 h4 hi hj h3 h5)
  rw [cnt_true, cnt_true] at this
  exact this

/-- Two of a chain know of each other. -/
theorem chn_cmpd {n : Nat} {P T : Nat → Int} {m j k x y : Nat} {l : Nat → Int} (h : chnB n P T m l = true) (hj : j < m) (hk : k < m) (ex : l j = (x : Nat)) (ey : l k = (y : Nat)) : j = k ∨ cmpd P T x y = true := by
  unfold chnB at h
  simp only [Bool.and_eq_true] at h
  have hc := h.1.1
  rcases Nat.lt_trichotomy j k with e | e | e
  · have h1 := chnK_lt hc e hk
    rw [ex, ey, Int.toNat_natCast, Int.toNat_natCast] at h1
    right; unfold cmpd; rw [h1]; rfl
  · exact .inl e
  · have h1 := chnK_lt hc e hj
    rw [ex, ey, Int.toNat_natCast, Int.toNat_natCast] at h1
    right; unfold cmpd; rw [h1]; simp
theorem cmpd_self (P T : Nat → Int) (x : Nat) : cmpd P T x x = false := by unfold cmpd; rw [bf_self]; rfl
/-- Two of a layer do not. -/
theorem lay_cmpd {n : Nat} {P T : Nat → Int} {m j k x y : Nat} {l : Nat → Int} (h : layB n P T m l = true) (hj : j < m) (hk : k < m) (ex : l j = (x : Nat)) (ey : l k = (y : Nat)) : cmpd P T x y = false := by
  unfold layB layK at h
  simp only [Bool.and_eq_true, List.all_eq_true, List.mem_range] at h
  have hc := h.1.1
  have key : ∀ {j k x y : Nat}, j < k → k < m → l j = (x : Nat) → l k = (y : Nat) → cmpd P T y x = false := fun {j k x y} hjk hk ex ey => by
    have := hc k hk
    unfold layAt at this
    simp only [Bool.and_eq_true, List.all_eq_true, List.mem_range] at this
    have := this.2 j hjk
    rw [ex, ey, Int.toNat_natCast, Int.toNat_natCast] at this
    simpa using this
  rcases Nat.lt_trichotomy j k with e | e | e
  · have := key e hk ex ey
    unfold cmpd at this ⊢
    rw [Bool.or_comm]; exact this
  · subst e
    have : x = y := by omega
    subst this
    exact cmpd_self P T x
  · exact key e hj ey ex
/-- The numbers of a layer are distinct. -/
theorem lay_inj {n : Nat} {P T : Nat → Int} {m : Nat} {l : Nat → Int} (h : layB n P T m l = true) : ∀ {k j : Nat}, j < k → k < m → l j < l k := by
  unfold layB layK at h
  simp only [Bool.and_eq_true, List.all_eq_true, List.mem_range] at h
  have hc := h.1.1
  intro k
  induction k with
  | zero => intro j hj; omega
  | succ k ih =>
    intro j hj hk
    have := hc (k + 1) hk
    unfold layAt at this
    simp only [Bool.and_eq_true, Bool.not_eq_true', Bool.and_eq_false_iff, decide_eq_false_iff_not] at this
    have h2 : l k < l (k + 1) := by
      rcases this.1.2 with h3 | h3
      · omega
      · rw [show k + 1 - 1 = k by omega] at h3; omega
    by_cases e : j = k
    · subst e; exact h2
    · have := ih (show j < k by omega) (by omega); omega

/-- A chain has no more hits than there are layers. -/
theorem chain_layers {n : Nat} {P T : Nat → Int} {N m : Nat} {r : Nat → Nat × (Nat → Int)} {l : Nat → Int} (h : areB n (layB n P T) N r = true) (hc : chnB n P T m l = true) : m ≤ N := by
  refine areB_many_of h m (fun j => (l j).toNat) (fun j hj => ?_) (fun i _ hb j k x y hj hk hx hy ex ey => ?_)
  · obtain ⟨i, hi, e⟩ := chnB_hit hc hj
    rw [e, Int.toNat_natCast]; exact hi
  · obtain ⟨a, _, e1⟩ := chnB_hit hc hx
    obtain ⟨b, _, e2⟩ := chnB_hit hc hy
    simp only [e1, e2, Int.toNat_natCast] at ex ey
    rcases chn_cmpd hc hx hy e1 e2 with h | h
    · exact h
    · rw [lay_cmpd hb hj hk ex ey] at h; cases h
theorem layB_hit' {n : Nat} {P T : Nat → Int} {m : Nat} {l : Nat → Int} (h : layB n P T m l = true) {j : Nat} (hj : j < m) : ∃ i : Nat, i < n ∧ l j = i := by
  unfold layB at h
  simp only [Bool.and_eq_true] at h
  exact layK_at h.1.1 hj

/-- A layer has no more hits than there are threads. -/
theorem layer_threads {n : Nat} {P T : Nat → Int} {N m : Nat} {r : Nat → Nat × (Nat → Int)} {l : Nat → Int} (h : areB n (chnB n P T) N r = true) (hc : layB n P T m l = true) : m ≤ N := by
  refine areB_many_of h m (fun j => (l j).toNat) (fun j hj => ?_) (fun i _ hb j k x y hj hk hx hy ex ey => ?_)
  · obtain ⟨i, hi, e⟩ := layB_hit' hc hj
    rw [e, Int.toNat_natCast]; exact hi
  · obtain ⟨a, _, e1⟩ := layB_hit' hc hx
    obtain ⟨b, _, e2⟩ := layB_hit' hc hy
    simp only [e1, e2, Int.toNat_natCast] at ex ey
    have hab := lay_cmpd hc hx hy e1 e2
    rcases chn_cmpd hb hj hk ex ey with h | h
    · subst h
      rcases Nat.lt_trichotomy x y with h | h | h
      · have := lay_inj hc h hy; omega
      · exact h
      · have := lay_inj hc h hx; omega
    · rw [hab] at h; cases h

/-- Lists of w numbers at most that have each hit: N w are all hits at least. -/
theorem areB_area {n : Nat} {B : Nat → (Nat → Int) → Bool} {N w : Nat} {r : Nat → Nat × (Nat → Int)} (h : areB n B N r = true) (hw : ∀ i, i < N → (r i).1 ≤ w) : n ≤ N * w := by
  unfold areB at h
  simp only [Bool.and_eq_true] at h
  obtain ⟨_, ho⟩ := h
  have hx : ∀ x, x < n → ∃ k j, k < N ∧ j < (r k).1 ∧ (r k).2 j = (x : Int) := fun x hx => by
    unfold onceB at ho
    have := of_decide_eq_true (List.all_eq_true.1 ho x (List.mem_range.2 hx))
    exact occ_mem (by omega)
  classical
  let f : Nat → Nat := fun x => if h : x < n then Classical.choose (hx x h) else 0
  let g : Nat → Nat := fun x => if h : x < n then Classical.choose (Classical.choose_spec (hx x h)) else 0
  have hf : ∀ x (h : x < n), f x < N ∧ g x < (r (f x)).1 ∧ (r (f x)).2 (g x) = (x : Int) := fun x h => by
    have e : f x = Classical.choose (hx x h) := dif_pos h
    have e2 : g x = Classical.choose (Classical.choose_spec (hx x h)) := dif_pos h
    rw [e, e2]
    exact Classical.choose_spec (Classical.choose_spec (hx x h))
  have := cnt_inj (fun x => f x * w + g x) n (N * w) (fun _ => true) (fun _ => true) (fun i hi _ => by
    obtain ⟨h1, h2, _⟩ := hf i hi
    have h3 := hw _ h1
    refine ⟨?_, rfl⟩
    have h4 : f i * w + w ≤ N * w := by rw [← Nat.succ_mul]; exact Nat.mul_le_mul_right w h1
    show f i * w + g i < N * w
    omega) (fun i hi _ j hj _ e => by
    obtain ⟨h1, h2, h3⟩ := hf i hi
    obtain ⟨k1, k2, k3⟩ := hf j hj
    have h4 := hw _ h1
    have k4 := hw _ k1
    have e : f i * w + g i = f j * w + g j := e
    have ef : f i = f j := by
      rcases Nat.lt_trichotomy (f i) (f j) with h | h | h
      · have : f i * w + w ≤ f j * w := by rw [← Nat.succ_mul]; exact Nat.mul_le_mul_right w h
        omega
      · exact h
      · have : f j * w + w ≤ f i * w := by rw [← Nat.succ_mul]; exact Nat.mul_le_mul_right w h
        omega
    rw [ef] at e h3
    have eg : g i = g j := by omega
    rw [eg, k3] at h3
    omega)
  rw [cnt_true, cnt_true] at this
  exact this

end Go.Proofs.YtjokheeegcilhaaDoor
