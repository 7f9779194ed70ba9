/- The plain law of the reference's longest chain: the lengths come right round by round, and the hits are chosen as the program chooses them. -/
import Derived.Test.YtjokheeegcilhaaDoorP17
import Derived.Test.YtjokheeegcilhaaDoorW7
import Derived.Test.YtjokheeegcilhaaDoorPB
namespace Go.Proofs.YtjokheeegcilhaaDoor
open Go.Firn

/-- The length of one while it is made anew: b others were looked at. -/
def stL (P T : Nat → Int) (f : Nat → Nat) (a b : Nat) : Nat := mx (fun x => if bf P T a x = true then f x else 0) b + 1
theorem stL_zero (P T : Nat → Int) (f : Nat → Nat) (a : Nat) : stL P T f a 0 = 1 := rfl
theorem stL_yes {P T : Nat → Int} (f : Nat → Nat) {a b : Nat} (h : bf P T a b = true) : stL P T f a (b + 1) = max (stL P T f a b) (f b + 1) := by
  show max (mx (fun x => if bf P T a x = true then f x else 0) b) (if bf P T a b = true then f b else 0) + 1 = max (mx (fun x => if bf P T a x = true then f x else 0) b + 1) (f b + 1)
  rw [if_pos h]; omega
theorem stL_no {P T : Nat → Int} (f : Nat → Nat) {a b : Nat} (h : bf P T a b = false) : stL P T f a (b + 1) = stL P T f a b := by
  show max (mx (fun x => if bf P T a x = true then f x else 0) b) (if bf P T a b = true then f b else 0) + 1 = mx (fun x => if bf P T a x = true then f x else 0) b + 1
  rw [if_neg (by simp [h])]; omega
theorem mx_bd {f : Nat → Nat} {M : Nat} : ∀ {k : Nat}, (∀ j, j < k → f j ≤ M) → mx f k ≤ M
  | 0, _ => Nat.zero_le _
  | k + 1, h => by
    have a := mx_bd (f := f) (M := M) (k := k) fun j hj => h j (by omega)
    have b := h k (by omega)
    show max (mx f k) (f k) ≤ M
    omega
theorem ht_st {n : Nat} {P T : Nat → Int} (i : Nat) : ht n P T i = stL P T (ht n P T) i n := by
  rw [ht_eq]
  unfold stL
  congr 1
  refine Nat.le_antisymm (mx_bd fun q hq => ?_) (mx_bd fun x hx => ?_)
  · obtain ⟨h1, h2⟩ := futL_at hq
    have := mx_le (fun x => if bf P T i x = true then ht n P T x else 0) h1
    rw [if_pos h2] at this
    exact this
  · by_cases t : bf P T i x = true
    · obtain ⟨q, hq, e⟩ := futL_has hx t
      have := mx_le (fun q => ht n P T ((futL n P T i).getD q 0)) hq
      rw [if_pos t]
      rw [e] at this
      exact this
    · rw [if_neg t]; exact Nat.zero_le _
theorem later_few {n : Nat} {T : Nat → Int} {i : Nat} (hi : i < n) : later n T i < n := by
  have h := cnt_one_less (q := fun _ => true) hi rfl
  rw [cnt_true] at h
  have m : later n T i ≤ cnt (fun x => true && !decide (x = i)) n := cnt_mono fun y _ hy => by
    have : T i < T y := by simpa using hy
    have : y ≠ i := fun e => by rw [e] at this; omega
    simpa using this
  omega
theorem ht_few {n : Nat} {P T : Nat → Int} {i : Nat} (hi : i < n) : ht n P T i ≤ n := by
  have := ht_le (n := n) (P := P) (T := T) (i := i)
  have := later_few (T := T) hi
  omega

/-- The reference's lengths within a round. -/
structure Lng (n : Nat) (P T : Nat → Int) (r k : Nat) (f : Nat → Nat) : Prop where
  bd : ∀ a, a < n → f a ≤ ht n P T a
  old : ∀ a, a < n → ht n P T a ≤ r → f a = ht n P T a
  new : ∀ a, a < n → a < k → ht n P T a ≤ r + 1 → f a = ht n P T a
theorem Lng.start (n : Nat) (P T : Nat → Int) : Lng n P T 0 0 fun _ => 0 :=
  ⟨fun a _ => Nat.zero_le _, fun a _ hh => by have := ht_pos (n := n) (P := P) (T := T) a; omega, fun a _ hk => by omega⟩
theorem Lng.next {n : Nat} {P T : Nat → Int} {r : Nat} {f : Nat → Nat} (H : Lng n P T r n f) : Lng n P T (r + 1) 0 f :=
  ⟨H.bd, fun a ha hh => H.new a ha ha hh, fun a _ hk => by omega⟩
theorem Lng.top {n : Nat} {P T : Nat → Int} {r k : Nat} {f : Nat → Nat} (H : Lng n P T r k f) {a b : Nat} (hb : b ≤ n) : stL P T f a b ≤ ht n P T a := by
  rw [ht_st]
  unfold stL
  refine Nat.add_le_add_right (mx_bd fun x hx => ?_) 1
  refine Nat.le_trans ?_ (mx_le (fun x => if bf P T a x = true then ht n P T x else 0) (show x < n by omega))
  show (if bf P T a x = true then f x else 0) ≤ if bf P T a x = true then ht n P T x else 0
  split
  · exact H.bd x (by omega)
  · exact Nat.le_refl _
theorem Lng.step {n : Nat} {P T : Nat → Int} {r k : Nat} {f : Nat → Nat} (H : Lng n P T r k f) (hk : k < n) : Lng n P T r (k + 1) fun x => if x = k then stL P T f k n else f x := by
  have top := H.top (a := k) (Nat.le_refl n)
  have same : ht n P T k ≤ r + 1 → stL P T f k n = ht n P T k := fun hh => by
    rw [ht_st] at hh ⊢
    unfold stL
    congr 1
    refine mx_congr fun b hb => ?_
    by_cases t : bf P T k b = true
    · rw [if_pos t, if_pos t]
      have := ht_lt hb t
      rw [← ht_st] at hh
      exact H.old b hb (by omega)
    · rw [if_neg t, if_neg t]
  refine ⟨fun a ha => ?_, fun a ha hh => ?_, fun a ha hk2 hh => ?_⟩ <;> by_cases t : a = k
  · subst t; rw [if_pos rfl]; exact top
  · rw [if_neg t]; exact H.bd a ha
  · subst t; rw [if_pos rfl]; exact same (by omega)
  · rw [if_neg t]; exact H.old a ha hh
  · subst t; rw [if_pos rfl]; exact same hh
  · rw [if_neg t]; exact H.new a ha (by omega) hh
theorem Lng.fin {n : Nat} {P T : Nat → Int} {f : Nat → Nat} (H : Lng n P T n 0 f) {a : Nat} (ha : a < n) : f a = ht n P T a := H.old a ha (ht_few ha)

/-- The reference's next hit. -/
theorem ChS.first {n : Nat} {P T : Nat → Int} {k : Nat} {fr : Nat → Bool} (h : ChS n P T k fr) (hk : k < topH n P T) {a : Nat} (ha : a < n) (hf : fr a = true)
    (hp : ht n P T a = topH n P T - k) (hb : ∀ q, q < a → fr q = true → ¬ ht n P T q = topH n P T - k) :
    (chnL n P T).getD k 0 = a ∧ ChS n P T (k + 1) (bf P T a) := by
  have e := els_at (p := fr) ha hf
  have l := els_len_le (p := fr) (n := n) (k := a + 1) (by omega)
  have l2 : (els fr a).length < (els fr (a + 1)).length := by rw [els_succ, if_pos hf]; simp
  have := h.step hk (j := (els fr a).length) (by omega) (by rw [e]; exact hp) fun q hq => by
    obtain ⟨r, hr⟩ := els_split (p := fr) (n := n) (k := a) (by omega)
    have g : (els fr n).getD q 0 = (els fr a).getD q 0 := by rw [hr]; simp [List.getD, List.getElem?_append_left hq]
    rw [g]
    obtain ⟨h1, h2⟩ := els_lt (p := fr) (n := a) hq
    exact hb _ h1 h2
  rw [e] at this
  exact this
theorem ChS.some {n : Nat} {P T : Nat → Int} {k : Nat} {fr : Nat → Bool} (h : ChS n P T k fr) (hk : k < topH n P T) : ∃ i, i < n ∧ fr i = true ∧ ht n P T i = topH n P T - k := h.2.2.resolve_left (by omega)

end Go.Proofs.YtjokheeegcilhaaDoor
