/- What is left without the first layer: its longest chain has one hit less. -/
import Derived.Test.YtjokheeegcilhaaDoorP16
import Derived.Test.YtjokheeegcilhaaDoorWB
namespace Go.Proofs.YtjokheeegcilhaaDoor
open Go.RowKit Go.Firn

/-- m hits, each before the next one. -/
def Chn (n : Nat) (P T : Nat → Int) (m : Nat) (c : Nat → Nat) : Prop := (∀ j, j < m → c j < n) ∧ ∀ j, j + 1 < m → bf P T (c j) (c (j + 1)) = true
theorem Chn.height {n : Nat} {P T : Nat → Int} {m : Nat} {c : Nat → Nat} (h : Chn n P T m c) : ∀ d j, j + d + 1 = m → d + 1 ≤ ht n P T (c j) := by
  intro d
  induction d with
  | zero => intro j _; exact ht_pos _
  | succ d ih =>
    intro j hj
    have := ih (j + 1) (by omega)
    have := ht_lt (h.1 (j + 1) (by omega)) (h.2 j (by omega))
    omega
theorem Chn.top {n : Nat} {P T : Nat → Int} {m : Nat} {c : Nat → Nat} (h : Chn n P T m c) : m ≤ topH n P T := by
  cases m with
  | zero => exact Nat.zero_le _
  | succ m =>
    have h1 := h.height m 0 (by omega)
    have h2 := mx_le (ht n P T) (h.1 0 (by omega))
    unfold topH
    omega
theorem Chn.exists {n : Nat} {P T : Nat → Int} (hn : 1 ≤ n) : Chn n P T (topH n P T) (fun j => (chnL n P T).getD j 0) := by
  obtain ⟨h1, h2, h3⟩ := chnL_good (P := P) (T := T) hn
  exact ⟨fun j hj => h2 _ (getD_mem (by omega)), h3⟩

/-- The hits that are not in the first layer. -/
def kept (n : Nat) (P T : Nat → Int) : List Nat := els (fun k => !(firstL n P T fun _ => true).contains k) n
def kP (n : Nat) (P T : Nat → Int) (i : Nat) : Int := P ((kept n P T).getD i 0)
def kT (n : Nat) (P T : Nat → Int) (i : Nat) : Int := T ((kept n P T).getD i 0)
theorem kept_lt {n : Nat} {P T : Nat → Int} {i : Nat} (hi : i < (kept n P T).length) : (kept n P T).getD i 0 < n ∧ ∃ b, b < n ∧ bf P T b ((kept n P T).getD i 0) = true := by
  obtain ⟨h1', h2⟩ := els_lt hi
  have h1 : (kept n P T).getD i 0 < n := h1'
  refine ⟨h1, ?_⟩
  have h3 : (!(firstL n P T fun _ => true).contains ((kept n P T).getD i 0)) = true := h2
  unfold firstL at h3
  rw [els_contains h1, Bool.not_eq_true'] at h3
  refine Classical.byContradiction fun hno => ?_
  rw [frB_iff.2 ⟨rfl, fun b hb _ => by
    cases hbx : bf P T b ((kept n P T).getD i 0) with
    | false => rfl
    | true => exact absurd ⟨b, hb, hbx⟩ hno⟩] at h3
  cases h3
theorem kept_has {n : Nat} {P T : Nat → Int} {x b : Nat} (hx : x < n) (hb : b < n) (h : bf P T b x = true) : ∃ i, i < (kept n P T).length ∧ (kept n P T).getD i 0 = x := by
  have : x ∈ kept n P T := by
    refine els_mem.2 ⟨hx, ?_⟩
    unfold firstL
    rw [els_contains hx, Bool.not_eq_true']
    cases hf : frB n P T (fun _ => true) x with
    | false => rfl
    | true => rw [(frB_iff.1 hf).2 b hb rfl] at h; cases h
  obtain ⟨i, hi, e⟩ := List.getElem_of_mem this
  exact ⟨i, hi, by rw [List.getD, List.getElem?_eq_getElem hi]; exact e⟩
theorem kept_len {n : Nat} {P T : Nat → Int} : (kept n P T).length ≤ n := by unfold kept; rw [els_length]; exact cnt_le _ _
theorem kept_inj {n : Nat} {P T : Nat → Int} {i k : Nat} (hi : i < (kept n P T).length) (hk : k < (kept n P T).length) (h : (kept n P T).getD i 0 = (kept n P T).getD k 0) : i = k := by
  rcases Nat.lt_trichotomy i k with e | e | e
  · have := els_asc e hk; unfold kept at h; omega
  · exact e
  · have := els_asc e hi; unfold kept at h; omega

/-- It is shorter by one. -/
theorem kept_top {n : Nat} {P T : Nat → Int} (h : 1 ≤ (kept n P T).length) : topH (kept n P T).length (kP n P T) (kT n P T) + 1 = topH n P T := by
  have hn : 1 ≤ n := Nat.le_trans h kept_len
  have a : topH (kept n P T).length (kP n P T) (kT n P T) + 1 ≤ topH n P T := by
    have C := Chn.exists (P := kP n P T) (T := kT n P T) h
    have t1 := (topH_ex (P := kP n P T) (T := kT n P T) h).1
    generalize topH (kept n P T).length (kP n P T) (kT n P T) = m at C t1
    generalize (fun j => (chnL (kept n P T).length (kP n P T) (kT n P T)).getD j 0) = c at C
    obtain ⟨b, hb, hbx⟩ := (kept_lt (C.1 0 t1)).2
    have : Chn n P T (m + 1) (fun j => if j = 0 then b else (kept n P T).getD (c (j - 1)) 0) := by
      refine ⟨fun j hj => ?_, fun j hj => ?_⟩
      · by_cases e : j = 0
        · simp only [if_pos e]; exact hb
        · simp only [if_neg e]; exact (kept_lt (C.1 (j - 1) (by omega))).1
      · simp only [Nat.add_one_ne_zero, if_false, Nat.add_sub_cancel]
        by_cases e : j = 0
        · subst e; simpa using hbx
        · simp only [if_neg e]
          have := C.2 (j - 1) (by omega)
          rw [show j - 1 + 1 = j by omega] at this
          exact this
    exact this.top
  have b : topH n P T ≤ topH (kept n P T).length (kP n P T) (kT n P T) + 1 := by
    have C := Chn.exists (P := P) (T := T) hn
    generalize hm : topH n P T = m at C
    generalize (fun j => (chnL n P T).getD j 0) = c at C
    have key : ∀ j, j + 1 < m → ∃ i, i < (kept n P T).length ∧ (kept n P T).getD i 0 = c (j + 1) := fun j hj => kept_has (C.1 (j + 1) hj) (C.1 j (by omega)) (C.2 j hj)
    have : Chn (kept n P T).length (kP n P T) (kT n P T) (m - 1) (fun j => if hj : j + 1 < m then (key j hj).choose else 0) := by
      refine ⟨fun j hj => ?_, fun j hj => ?_⟩
      · have hj' : j + 1 < m := by omega
        simp only [dif_pos hj']
        exact (key j hj').choose_spec.1
      · have h1 : j + 1 < m := by omega
        have h2 : j + 1 + 1 < m := by omega
        simp only [dif_pos h1, dif_pos h2]
        have := C.2 (j + 1) h2
        rw [← (key j h1).choose_spec.2, ← (key (j + 1) h2).choose_spec.2] at this
        exact this
    have := this.top
    omega
  omega
theorem kept_none {n : Nat} {P T : Nat → Int} (hn : 1 ≤ n) (h : (kept n P T).length = 0) : topH n P T = 1 := by
  have t1 := (topH_ex (P := P) (T := T) hn).1
  have C := Chn.exists (P := P) (T := T) hn
  refine Nat.le_antisymm ?_ t1
  refine Nat.le_of_not_lt fun e => ?_
  obtain ⟨i, hi, _⟩ := kept_has (C.1 1 e) (C.1 0 (by omega)) (C.2 0 e)
  omega
theorem kept_valid {n : Nat} {P T : Nat → Int} (V : VH n P T) (h : 1 ≤ (kept n P T).length) : VH (kept n P T).length (kP n P T) (kT n P T) :=
  ⟨h, Nat.le_trans kept_len V.few, fun _ hi => V.ok _ (kept_lt hi).1, fun _ _ hi hk h1 h2 => kept_inj hi hk (V.apart _ _ (kept_lt hi).1 (kept_lt hk).1 h1 h2)⟩
theorem kept_wf {n : Nat} {P T : Nat → Int} (hw : WfH n P T) : WfH (kept n P T).length (kP n P T) (kT n P T) := fun _ hi => hw _ (kept_lt hi).1
theorem first_pos {n : Nat} {P T : Nat → Int} (V : VH n P T) : 1 ≤ (firstL n P T fun _ => true).length := by
  have C := Chn.exists (P := P) (T := T) V.pos
  have t1 := (topH_ex (P := P) (T := T) V.pos).1
  have h0 := C.1 0 t1
  generalize (fun j => (chnL n P T).getD j 0) = c at C h0
  have : frB n P T (fun _ => true) (c 0) = true := frB_iff.2 ⟨rfl, fun b hb _ => by
    cases hbx : bf P T b (c 0) with
    | false => rfl
    | true =>
      have : Chn n P T (topH n P T + 1) (fun j => if j = 0 then b else c (j - 1)) := by
        refine ⟨fun j hj => ?_, fun j hj => ?_⟩
        · by_cases e : j = 0
          · simp only [if_pos e]; exact hb
          · simp only [if_neg e]; exact C.1 (j - 1) (by omega)
        · simp only [Nat.add_one_ne_zero, if_false, Nat.add_sub_cancel]
          by_cases e : j = 0
          · subst e; simpa using hbx
          · simp only [if_neg e]
            have := C.2 (j - 1) (by omega)
            rw [show j - 1 + 1 = j by omega] at this
            exact this
      have := this.top
      omega⟩
  unfold firstL
  rw [els_length]
  have := cnt_pos h0 this
  omega
theorem first_lay {n : Nat} {P T : Nat → Int} : layK1 n P T 0 = firstL n P T fun _ => true :=
  els_congr fun a ha => frB_congr (fun i hi => by show decide (i < n) = true; simpa using hi) ha
/-- It is fewer hits. -/
theorem kept_less {n : Nat} {P T : Nat → Int} (V : VH n P T) : (kept n P T).length < n := by
  have h1 := first_pos V
  have h2 : cnt (fun _ => true) n = cnt (frB n P T fun _ => true) n + cnt (fun k => !(firstL n P T fun _ => true).contains k) n := by
    rw [cnt_split2 n (fun _ => true) (frB n P T fun _ => true) (fun _ _ _ => rfl)]
    congr 1
    refine cnt_congr fun i hi => ?_
    unfold firstL
    rw [els_contains hi, Bool.true_and]
  rw [cnt_true] at h2
  unfold kept
  rw [els_length]
  unfold firstL at h1
  rw [els_length] at h1
  unfold firstL at h2
  unfold firstL
  omega

end Go.Proofs.YtjokheeegcilhaaDoor
