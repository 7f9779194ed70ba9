import Derived.Ground.Names2Prog
import Derived.Shelf.Slices.Clone
import Derived.Shelf.Slices.Delete
import Derived.Ground.Names8Prog
import Derived.Shelf.Spec.SlicesGrow
import Derived.Sort.OwnSortedInts
import Derived.Test.YtehdemcfeoiecaaGreatDoorK02
set_option maxHeartbeats 64000000
set_option maxRecDepth 100000
namespace Go.Firn.Tb
def ahd (K : Nat → List Int) (i j : Nat) : Prop := K i < K j ∨ K i = K j ∧ i < j
theorem ahd.trans {K : Nat → List Int} {i j k : Nat} (h : ahd K i j) (g : ahd K j k) : ahd K i k := by
 rcases h with h | ⟨e, h⟩
 ·rcases g with g | ⟨e', g⟩
  ·exact .inl (List.lt_trans h g)
  exact .inl (e' ▸ h)
 rcases g with g | ⟨e', g⟩
 ·exact .inl (e ▸ g)
 exact .inr ⟨e.trans e', by omega⟩
theorem ahd.of_not {K : Nat → List Int} {i j : Nat} (h : ¬ K j < K i) (g : i < j) : ahd K i j := by
 rcases Classical.em (K i = K j) with e | e
 ·exact .inr ⟨e, g⟩
 exact .inl (tri h (fun e' => e e'.symm))
def cmpI (x y : List Int) : Int := if x < y then -1 else if y < x then 1 else 0
theorem cmpI_neg {x y : List Int} : cmpI x y < 0 ↔ x < y := by
 unfold cmpI
 split
 ·simp [*]
 split <;> simp [*]
theorem cmpI_zero {x y : List Int} : cmpI x y = 0 ↔ x = y := by
 unfold cmpI
 split
 ·rename_i h; simp [lt_ne h]
 split
 ·rename_i h; simp [(lt_ne h).symm]
 rename_i h g
 simp only [true_iff]
 rcases Classical.em (x = y) with e | e
 ·exact e
 exact absurd (tri h e) g
def exc (R : Nat → Nat) (i j : Nat) : Nat → Nat := fun p => if p = j then R i else if p = i then R j else R p
def swr (R : Nat → Nat) (a m k : Nat) : Nat → Nat := fun p => if a ≤ p ∧ p < a + k then R (m + (p - a)) else if m ≤ p ∧ p < m + k then R (a + (p - m)) else R p
theorem swr_zero (R : Nat → Nat) (a m : Nat) : swr R a m 0 = R := by
 funext p
 unfold swr
 rw [if_neg (by omega), if_neg (by omega)]
theorem swr_succ (R : Nat → Nat) {a m k : Nat} (h : a + k < m) : exc (swr R a m k) (a + k) (m + k) = swr R a m (k + 1) := by
 funext p
 unfold exc
 by_cases h1 : p = m + k
 ·subst h1
  rw [if_pos rfl]
  unfold swr
  rw [if_neg (by omega), if_neg (by omega), if_neg (by omega), if_pos (by omega)]
  congr 1; omega
 by_cases h2 : p = a + k
 ·subst h2
  rw [if_neg h1, if_pos rfl]
  unfold swr
  rw [if_neg (by omega), if_neg (by omega), if_pos (by omega)]
  congr 1; omega
 rw [if_neg h1, if_neg h2]
 unfold swr
 by_cases h3 : a ≤ p ∧ p < a + k
 ·rw [if_pos h3, if_pos (by omega)]
 rw [if_neg h3, if_neg (c := a ≤ p ∧ p < a + (k + 1)) (by omega)]
 by_cases h4 : m ≤ p ∧ p < m + k
 ·rw [if_pos h4, if_pos (by omega)]
 rw [if_neg h4, if_neg (by omega)]
def rot (R : Nat → Nat) (a m b : Nat) : Nat → Nat := fun p => if a ≤ p ∧ p < a + (b - m) then R (m + (p - a)) else if a + (b - m) ≤ p ∧ p < b then R (a + (p - (a + (b - m)))) else R p
theorem rot_more (R : Nat → Nat) {m i j : Nat} (hi : i ≤ m) (hj : 1 ≤ j) (h : j < i) : rot (swr R (m - i) m j) (m - (i - j)) m (m + j) = rot R (m - i) m (m + j) := by
 funext p
 unfold rot
 have e : m + j - m = j := by omega
 rw [e]
 by_cases h0 : p < m - i ∨ m + j ≤ p
 ·rw [if_neg (by omega), if_neg (by omega), if_neg (by omega), if_neg (by omega)]
  unfold swr
  rw [if_neg (by omega), if_neg (by omega)]
 by_cases h1 : p < m - i + j
 ·rw [if_neg (by omega), if_neg (by omega), if_pos (by omega)]
  unfold swr
  rw [if_pos (by omega)]
 by_cases h2 : p < m - i + j + j
 ·rw [if_pos (by omega), if_neg (by omega), if_pos (by omega)]
  unfold swr
  rw [if_neg (by omega), if_pos (by omega)]
  congr 1; omega
 rw [if_neg (by omega), if_pos (by omega), if_neg (by omega), if_pos (by omega)]
 unfold swr
 rw [if_neg (by omega), if_neg (by omega)]
 congr 1; omega
theorem rot_less (R : Nat → Nat) {m i j : Nat} (hi : i ≤ m) (h1i : 1 ≤ i) (h : i < j) : rot (swr R (m - i) (m + j - i) i) (m - i) m (m + (j - i)) = rot R (m - i) m (m + j) := by
 funext p
 unfold rot
 have e : m + j - m = j := by omega
 have e' : m + (j - i) - m = j - i := by omega
 rw [e, e']
 by_cases h0 : p < m - i ∨ m + j ≤ p
 ·rw [if_neg (by omega), if_neg (by omega), if_neg (by omega), if_neg (by omega)]
  unfold swr
  rw [if_neg (by omega), if_neg (by omega)]
 by_cases h1 : p < m - i + (j - i)
 ·rw [if_pos (by omega), if_pos (by omega)]
  unfold swr
  rw [if_neg (by omega), if_neg (by omega)]
 by_cases h2 : p < m + (j - i)
 ·rw [if_neg (by omega), if_pos (by omega), if_pos (by omega)]
  unfold swr
  rw [if_pos (by omega)]
  congr 1; omega
 rw [if_neg (by omega), if_neg (by omega), if_neg (by omega), if_pos (by omega)]
 unfold swr
 rw [if_neg (by omega), if_pos (by omega)]
 congr 1; omega
theorem rot_same (R : Nat → Nat) {m i : Nat} (hi : i ≤ m) : swr R (m - i) m i = rot R (m - i) m (m + i) := by
 funext p
 unfold rot swr
 have e : m + i - m = i := by omega
 rw [e]
 by_cases h1 : m - i ≤ p ∧ p < m - i + i
 ·rw [if_pos h1, if_pos h1]
 rw [if_neg h1, if_neg h1]
 by_cases h2 : m ≤ p ∧ p < m + i
 ·rw [if_pos h2, if_pos (by omega)]
  congr 1; omega
 rw [if_neg h2, if_neg (by omega)]
structure Prm (a b : Nat) (R R' : Nat → Nat) : Prop where
 out : ∀ p, p < a ∨ b ≤ p → R' p = R p
 from_ : ∀ p, a ≤ p → p < b → ∃ q, a ≤ q ∧ q < b ∧ R' p = R q
 fwd : ∀ q, a ≤ q → q < b → ∃ p, a ≤ p ∧ p < b ∧ R' p = R q
theorem Prm.refl (a b : Nat) (R : Nat → Nat) : Prm a b R R := ⟨fun _ _ => rfl, fun p h1 h2 => ⟨p, h1, h2, rfl⟩, fun p h1 h2 => ⟨p, h1, h2, rfl⟩⟩
theorem Prm.trans {a b : Nat} {R S T : Nat → Nat} (h : Prm a b R S) (g : Prm a b S T) : Prm a b R T where
 out p hp := (g.out p hp).trans (h.out p hp)
 from_ p h1 h2 := by
  obtain ⟨q, k1, k2, e⟩ := g.from_ p h1 h2
  obtain ⟨r, l1, l2, e'⟩ := h.from_ q k1 k2
  exact ⟨r, l1, l2, e.trans e'⟩
 fwd p h1 h2 := by
  obtain ⟨q, k1, k2, e⟩ := h.fwd p h1 h2
  obtain ⟨r, l1, l2, e'⟩ := g.fwd q k1 k2
  exact ⟨r, l1, l2, e'.trans e⟩
theorem Prm.wide {a b a' b' : Nat} {R S : Nat → Nat} (h : Prm a b R S) (ha : a' ≤ a) (hb : b ≤ b') : Prm a' b' R S where
 out p hp := h.out p (by omega)
 from_ p h1 h2 := by
  by_cases k : a ≤ p ∧ p < b
  ·obtain ⟨q, k1, k2, e⟩ := h.from_ p k.1 k.2
   exact ⟨q, by omega, by omega, e⟩
  exact ⟨p, h1, h2, h.out p (by omega)⟩
 fwd p h1 h2 := by
  by_cases k : a ≤ p ∧ p < b
  ·obtain ⟨q, k1, k2, e⟩ := h.fwd p k.1 k.2
   exact ⟨q, by omega, by omega, e⟩
  exact ⟨p, h1, h2, h.out p (by omega)⟩
theorem Prm.exc {a b i j : Nat} (R : Nat → Nat) (hi : a ≤ i ∧ i < b) (hj : a ≤ j ∧ j < b) : Prm a b R (exc R i j) where
 out p hp := by
  unfold Tb.exc
  rw [if_neg (by omega), if_neg (by omega)]
 from_ p h1 h2 := by
  unfold Tb.exc
  split
  ·exact ⟨i, hi.1, hi.2, rfl⟩
  split
  ·exact ⟨j, hj.1, hj.2, rfl⟩
  exact ⟨p, h1, h2, rfl⟩
 fwd q h1 h2 := by
  by_cases k1 : q = i
  ·subst k1
   refine ⟨j, hj.1, hj.2, ?_⟩
   unfold Tb.exc; rw [if_pos rfl]
  by_cases k2 : q = j
  ·subst k2
   by_cases k3 : i = q
   ·exact absurd k3.symm k1
   refine ⟨i, hi.1, hi.2, ?_⟩
   unfold Tb.exc; rw [if_neg k3, if_pos rfl]
  refine ⟨q, h1, h2, ?_⟩
  unfold Tb.exc; rw [if_neg k2, if_neg k1]
theorem Prm.rot {a m b : Nat} (R : Nat → Nat) (h1 : a ≤ m) (h2 : m ≤ b) : Prm a b R (rot R a m b) where
 out p hp := by
  unfold Tb.rot
  rw [if_neg (by omega), if_neg (by omega)]
 from_ p k1 k2 := by
  unfold Tb.rot
  split
  ·exact ⟨m + (p - a), by omega, by omega, rfl⟩
  rw [if_pos (by omega)]
  exact ⟨a + (p - (a + (b - m))), by omega, by omega, rfl⟩
 fwd q k1 k2 := by
  by_cases k : q < m
  ·refine ⟨a + (b - m) + (q - a), by omega, by omega, ?_⟩
   unfold Tb.rot
   rw [if_neg (by omega), if_pos (by omega)]
   congr 1; omega
  refine ⟨a + (q - m), by omega, by omega, ?_⟩
  unfold Tb.rot
  rw [if_pos (by omega)]
  congr 1; omega
def Srt' (K : Nat → List Int) (R : Nat → Nat) (a b : Nat) : Prop := ∀ p q, a ≤ p → p < q → q < b → ahd K (R p) (R q)
def Low (R : Nat → Nat) (a m b : Nat) : Prop := ∀ p q, a ≤ p → p < m → m ≤ q → q < b → R p < R q
structure InsS (K : Nat → List Int) (R : Nat → Nat) (a i j : Nat) : Prop where
 lo : a ≤ j ∧ j ≤ i
 here : R j = i
 rest : ∀ p q, a ≤ p → p < q → q ≤ i → p ≠ j → q ≠ j → ahd K (R p) (R q)
 less : ∀ q, j < q → q ≤ i → ahd K (R j) (R q)
 ids : ∀ p, a ≤ p → p ≤ i → p ≠ j → R p < i
theorem InsS.next {K : Nat → List Int} {R : Nat → Nat} {a i j : Nat} (h : InsS K R a i (j + 1)) (ha : a ≤ j) (hl : K (R (j + 1)) < K (R j)) : InsS K (exc R (j + 1) j) a i j := by
 have e1 : exc R (j + 1) j j = R (j + 1) := by unfold exc; rw [if_pos rfl]
 have e2 : exc R (j + 1) j (j + 1) = R j := by unfold exc; rw [if_neg (by omega), if_pos rfl]
 have e3 : ∀ p, p ≠ j → p ≠ j + 1 → exc R (j + 1) j p = R p := fun p h1 h2 => by unfold exc; rw [if_neg h1, if_neg h2]
 have h0 := h.lo
 refine ⟨⟨ha, by omega⟩, by rw [e1]; exact h.here, fun p q h1 h2 h3 k1 k2 => ?_, fun q h1 h2 => ?_, fun p h1 h2 k => ?_⟩
 ·by_cases kp : p = j + 1
  ·subst kp
   rw [e2, e3 q k2 (by omega)]
   exact h.rest j q ha (by omega) h3 (by omega) (by omega)
  rw [e3 p k1 kp]
  by_cases kq : q = j + 1
  ·subst kq
   rw [e2]
   exact h.rest p j h1 (by omega) (by omega) kp (by omega)
  rw [e3 q k2 kq]
  exact h.rest p q h1 h2 h3 kp kq
 ·rw [e1]
  by_cases kq : q = j + 1
  ·subst kq
   rw [e2]
   exact .inl hl
  rw [e3 q (by omega) kq]
  exact h.less q (by omega) h2
 by_cases kp : p = j + 1
 ·subst kp
  rw [e2]
  exact h.ids j ha (by omega) (by omega)
 rw [e3 p k kp]
 exact h.ids p h1 h2 kp
theorem InsS.stop {K : Nat → List Int} {R : Nat → Nat} {a i j : Nat} (h : InsS K R a i j) (hs : j = a ∨ ∃ j', j = j' + 1 ∧ a ≤ j' ∧ ¬ K (R j) < K (R j')) : Srt' K R a (i + 1) := by
 intro p q h1 h2 h3
 by_cases kp : p = j
 ·subst kp; exact h.less q h2 (by omega)
 by_cases kq : q = j
 ·subst kq
  rcases hs with rfl | ⟨j', rfl, ha, hn⟩
  ·omega
  have h0 := h.lo
  have a1 : ahd K (R j') (R (j' + 1)) := ahd.of_not hn (by rw [h.here]; exact h.ids j' ha (by omega) (by omega))
  by_cases kj : p = j'
  ·subst kj; exact a1
  exact (h.rest p j' h1 (by omega) (by omega) kp (by omega)).trans a1
 exact h.rest p q h1 h2 (by omega) kp kq
structure Cut (K : Nat → List Int) (R : Nat → Nat) (a m b mid st : Nat) : Prop where
 s1 : a ≤ st ∧ st ≤ m
 s2 : st ≤ mid
 e1 : mid + m - st ≤ b
 lt : a < st → mid + m - st < b → ahd K (R (st - 1)) (R (mid + m - st))
 gt : st < m → m < mid + m - st → ahd K (R (mid + m - st - 1)) (R st)
theorem rot_lo {R : Nat → Nat} {st m en p : Nat} (h1 : st ≤ p) (h2 : p < st + (en - m)) : rot R st m en p = R (m + (p - st)) := by
 unfold rot; rw [if_pos ⟨h1, h2⟩]
theorem rot_hi {R : Nat → Nat} {st m en p : Nat} (h1 : st + (en - m) ≤ p) (h2 : p < en) : rot R st m en p = R (st + (p - (st + (en - m)))) := by
 unfold rot; rw [if_neg (by omega), if_pos ⟨h1, h2⟩]
theorem rot_out {R : Nat → Nat} {st m en p : Nat} (hs : st ≤ m) (h : p < st ∨ en ≤ p) : rot R st m en p = R p := by
 unfold rot; rw [if_neg (by omega), if_neg (by omega)]
theorem cut_parts {K : Nat → List Int} {R : Nat → Nat} {a m b mid st : Nat} (hm : a < m ∧ m < b) (hmid : a < mid ∧ mid < b) (hc : Cut K R a m b mid st) (s1 : Srt' K R a m) (s2 : Srt' K R m b) (hl : Low R a m b) :
  let S := rot R st m (mid + m - st)
  (Srt' K S a st ∧ Srt' K S st mid ∧ Low S a st mid) ∧ (Srt' K S mid (mid + m - st) ∧ Srt' K S (mid + m - st) b ∧ Low S mid (mid + m - st) b) ∧ (∀ p q, a ≤ p → p < mid → mid ≤ q → q < b → ahd K (S p) (S q)) := by
 intro S
 obtain ⟨⟨c1, c2⟩, c3, c4, c5, c6⟩ := hc
 have hen : mid + m - st - m = mid - st := by omega
 have A1 : ∀ p, a ≤ p → p < st → S p = R p := fun p h1 h2 => rot_out c2 (.inl h2)
 have B1 : ∀ p, st ≤ p → p < mid → S p = R (m + (p - st)) := fun p h1 h2 => rot_lo h1 (by omega)
 have A2 : ∀ p, mid ≤ p → p < mid + m - st → S p = R (st + (p - mid)) := fun p h1 h2 => by
  have := rot_hi (R := R) (st := st) (m := m) (en := mid + m - st) (p := p) (by omega) h2
  rw [show st + (p - (st + (mid + m - st - m))) = st + (p - mid) by omega] at this
  exact this
 have B2 : ∀ p, mid + m - st ≤ p → p < b → S p = R p := fun p h1 h2 => rot_out c2 (.inr h1)
 refine ⟨⟨fun p q h1 h2 h3 => ?_, fun p q h1 h2 h3 => ?_, fun p q h1 h2 h3 h4 => ?_⟩, ⟨fun p q h1 h2 h3 => ?_, fun p q h1 h2 h3 => ?_, fun p q h1 h2 h3 h4 => ?_⟩, fun p q h1 h2 h3 h4 => ?_⟩
 ·rw [A1 p h1 (by omega), A1 q (by omega) h3]
  exact s1 p q h1 h2 (by omega)
 ·rw [B1 p h1 (by omega), B1 q (by omega) h3]
  exact s2 _ _ (by omega) (by omega) (by omega)
 ·rw [A1 p h1 h2, B1 q h3 h4]
  exact hl _ _ h1 (by omega) (by omega) (by omega)
 ·rw [A2 p h1 (by omega), A2 q (by omega) h3]
  exact s1 _ _ (by omega) (by omega) (by omega)
 ·rw [B2 p h1 (by omega), B2 q (by omega) h3]
  exact s2 _ _ (by omega) h2 h3
 ·rw [A2 p h1 h2, B2 q h3 h4]
  exact hl _ _ (by omega) (by omega) (by omega) h4
 have chainA : ∀ p q, a ≤ p → p ≤ q → q < m → p = q ∨ ahd K (R p) (R q) := fun p q k1 k2 k3 => by
  rcases Nat.lt_or_ge p q with k | k
  ·exact .inr (s1 p q k1 k k3)
  exact .inl (by omega)
 have chainB : ∀ p q, m ≤ p → p ≤ q → q < b → p = q ∨ ahd K (R p) (R q) := fun p q k1 k2 k3 => by
  rcases Nat.lt_or_ge p q with k | k
  ·exact .inr (s2 p q k1 k k3)
  exact .inl (by omega)
 have join : ∀ {x y z : Nat}, (x = y ∨ ahd K (R x) (R y)) → ahd K (R y) (R z) → ahd K (R x) (R z) := fun h g => by
  rcases h with rfl | h
  ·exact g
  exact h.trans g
 have join' : ∀ {x y z : Nat}, ahd K (R x) (R y) → (y = z ∨ ahd K (R y) (R z)) → ahd K (R x) (R z) := fun h g => by
  rcases g with rfl | g
  ·exact h
  exact h.trans g
 by_cases kp : p < st
 ·rw [A1 p h1 kp]
  by_cases kq : q < mid + m - st
  ·rw [A2 q h3 kq]
   exact s1 _ _ h1 (by omega) (by omega)
  rw [B2 q (by omega) h4]
  have := c5 (by omega) (by omega)
  exact join' (join (chainA p (st - 1) h1 (by omega) (by omega)) this) (chainB (mid + m - st) q (by omega) (by omega) h4)
 rw [B1 p (by omega) h2]
 by_cases kq : q < mid + m - st
 ·rw [A2 q h3 kq]
  have := c6 (by omega) (by omega)
  exact join' (join (chainB (m + (p - st)) (mid + m - st - 1) (by omega) (by omega) (by omega)) this) (chainA st (st + (q - mid)) (by omega) (by omega) (by omega))
 rw [B2 q (by omega) h4]
 exact s2 _ _ (by omega) (by omega) h4
theorem srt_join {K : Nat → List Int} {T : Nat → Nat} {a mid b : Nat} (h1 : Srt' K T a mid) (h2 : Srt' K T mid b) (h : ∀ p q, a ≤ p → p < mid → mid ≤ q → q < b → ahd K (T p) (T q)) : Srt' K T a b := fun p q k1 k2 k3 => by
 by_cases kq : q < mid
 ·exact h1 p q k1 k2 kq
 by_cases kp : p < mid
 ·exact h p q k1 kp (by omega) k3
 exact h2 p q (by omega) k2 k3
theorem cross_prm {K : Nat → List Int} {S T U : Nat → Nat} {a mid b : Nat} (h : ∀ p q, a ≤ p → p < mid → mid ≤ q → q < b → ahd K (S p) (S q)) (h1 : Prm a mid S T) (h2 : Prm mid b T U) : ∀ p q, a ≤ p → p < mid → mid ≤ q → q < b → ahd K (U p) (U q) := fun p q k1 k2 k3 k4 => by
 rw [h2.out p (by omega)]
 obtain ⟨p', l1, l2, e1⟩ := h1.from_ p k1 k2
 obtain ⟨q', m1, m2, e2⟩ := h2.from_ q k3 k4
 rw [e1, e2, h1.out q' (by omega)]
 exact h p' q' l1 l2 m1 m2
def shU (R : Nat → Nat) (a q : Nat) : Nat → Nat := fun p => if a ≤ p ∧ p < q then R (p + 1) else if p = q then R a else R p
theorem shU_zero (R : Nat → Nat) (a : Nat) : shU R a a = R := by
 funext p
 unfold shU
 rw [if_neg (by omega)]
 split
 ·rename_i h; rw [h]
 rfl
theorem shU_next (R : Nat → Nat) {a q : Nat} (h : a ≤ q) : exc (shU R a q) q (q + 1) = shU R a (q + 1) := by
 funext p
 unfold exc shU
 by_cases h1 : p = q + 1
 ·subst h1
  rw [if_pos rfl, if_neg (by omega), if_pos rfl, if_neg (by omega), if_pos rfl]
 rw [if_neg h1]
 by_cases h2 : p = q
 ·subst h2
  rw [if_pos rfl, if_neg (by omega), if_neg (by omega), if_pos (by omega)]
 rw [if_neg h2]
 by_cases h3 : a ≤ p ∧ p < q
 ·rw [if_pos h3, if_pos (by omega)]
 rw [if_neg h3, if_neg h2, if_neg (by omega), if_neg h1]
theorem shU_prm (R : Nat → Nat) {a e : Nat} : ∀ {q : Nat}, a ≤ q → q < e → Prm a e R (shU R a q) := fun {q} h1 h2 => by
 obtain ⟨d, rfl⟩ : ∃ d, q = a + d := ⟨q - a, by omega⟩
 induction d with
 | zero => rw [Nat.add_zero, shU_zero]; exact Prm.refl _ _ _
 | succ d ih =>
  rw [← Nat.add_assoc, ← shU_next R (by omega)]
  exact (ih (by omega) (by omega)).trans (Prm.exc _ (by omega) (by omega))
theorem shU_srt {K : Nat → List Int} {R : Nat → Nat} {a m e i : Nat} (hm : m = a + 1) (h1 : m ≤ i) (h2 : i ≤ e) (hs : Srt' K R m e) (hl : Low R a m e) (lo : ∀ p, m ≤ p → p < i → K (R p) < K (R a)) (hi : ∀ p, i ≤ p → p < e → ¬ K (R p) < K (R a)) : Srt' K (shU R a (i - 1)) a e := fun p q k1 k2 k3 => by
 unfold shU
 by_cases p1 : p < i - 1
 ·rw [if_pos (by omega)]
  by_cases q1 : q < i - 1
  ·rw [if_pos (by omega)]
   exact hs _ _ (by omega) (by omega) (by omega)
  rw [if_neg (by omega)]
  by_cases q2 : q = i - 1
  ·rw [if_pos q2]
   exact .inl (lo _ (by omega) (by omega))
  rw [if_neg q2]
  exact hs _ _ (by omega) (by omega) (by omega)
 rw [if_neg (by omega)]
 by_cases p2 : p = i - 1
 ·rw [if_pos p2, if_neg (by omega), if_neg (by omega)]
  exact ahd.of_not (hi q (by omega) k3) (hl a q (Nat.le_refl _) (by omega) (by omega) k3)
 rw [if_neg p2, if_neg (by omega), if_neg (by omega)]
 exact hs _ _ (by omega) k2 k3
def shD (R : Nat → Nat) (m k : Nat) : Nat → Nat := fun p => if k < p ∧ p ≤ m then R (p - 1) else if p = k then R m else R p
theorem shD_zero (R : Nat → Nat) (m : Nat) : shD R m m = R := by
 funext p
 unfold shD
 rw [if_neg (by omega)]
 split
 ·rename_i h; rw [h]
 rfl
theorem shD_next (R : Nat → Nat) {m k : Nat} (h : k < m) : exc (shD R m (k + 1)) (k + 1) k = shD R m k := by
 funext p
 unfold exc shD
 by_cases h1 : p = k
 ·subst h1
  rw [if_pos rfl, if_neg (by omega), if_pos rfl, if_neg (by omega), if_pos rfl]
 rw [if_neg h1]
 by_cases h2 : p = k + 1
 ·subst h2
  rw [if_pos rfl, if_neg (by omega), if_neg (by omega), if_pos (by omega)]
  rfl
 rw [if_neg h2]
 by_cases h3 : k + 1 < p ∧ p ≤ m
 ·rw [if_pos h3, if_pos (by omega)]
 rw [if_neg h3, if_neg h2, if_neg (by omega), if_neg h1]
theorem shD_prm (R : Nat → Nat) {a e m : Nat} : ∀ (d : Nat), d ≤ m → a ≤ m - d → m < e → Prm a e R (shD R m (m - d))
 | 0, _, _, _ => by rw [Nat.sub_zero, shD_zero]; exact Prm.refl _ _ _
 | d + 1, h1, h2, h3 => by
  have := shD_next R (m := m) (k := m - (d + 1)) (by omega)
  rw [← this, show m - (d + 1) + 1 = m - d by omega]
  exact (shD_prm R d (by omega) (by omega) h3).trans (Prm.exc _ (by omega) (by omega))
theorem shD_srt {K : Nat → List Int} {R : Nat → Nat} {a m e i : Nat} (hm : e = m + 1) (h1 : a ≤ i) (h2 : i ≤ m) (hs : Srt' K R a m) (hl : Low R a m e) (lo : ∀ p, a ≤ p → p < i → ¬ K (R m) < K (R p)) (hi : ∀ p, i ≤ p → p < m → K (R m) < K (R p)) : Srt' K (shD R m i) a e := fun p q k1 k2 k3 => by
 unfold shD
 by_cases q1 : i < q
 ·rw [if_pos (c := i < q ∧ q ≤ m) (by omega)]
  by_cases p1 : i < p
  ·rw [if_pos (by omega)]
   exact hs _ _ (by omega) (by omega) (by omega)
  rw [if_neg (by omega)]
  by_cases p2 : p = i
  ·rw [if_pos p2]
   exact .inl (hi _ (by omega) (by omega))
  rw [if_neg p2]
  exact hs _ _ k1 (by omega) (by omega)
 rw [if_neg (c := i < q ∧ q ≤ m) (by omega), if_neg (c := i < p ∧ p ≤ m) (by omega), if_neg (c := p = i) (by omega)]
 by_cases q2 : q = i
 ·rw [if_pos q2]
  exact ahd.of_not (lo p k1 (by omega)) (hl p m k1 (by omega) (Nat.le_refl _) (by omega))
 rw [if_neg q2]
 exact hs _ _ k1 k2 (by omega)
theorem rot_id (R : Nat → Nat) {st m en : Nat} (h : st = m ∨ en = m) : rot R st m en = R := by
 funext p
 unfold rot
 rcases h with h | h
 ·subst h
  by_cases k : st ≤ p ∧ p < st + (en - st)
  ·rw [if_pos k]; congr 1; omega
  rw [if_neg k, if_neg (by omega)]
 subst h
 rw [if_neg (by omega)]
 by_cases k : st + (en - en) ≤ p ∧ p < en
 ·rw [if_pos k]; congr 1; omega
 rw [if_neg k]
theorem cut_found {K : Nat → List Int} {R : Nat → Nat} {a m e mid st s0 r0 : Nat} (hm : a < m ∧ m < e) (hmid : a < mid ∧ mid < e) (hl : Low R a m e) (h0 : (mid < m ∧ s0 = mid + m - e ∧ r0 = mid ∧ a ≤ s0) ∨ (m ≤ mid ∧ s0 = a ∧ r0 = m ∧ mid + m - a ≤ e)) (hst : s0 ≤ st ∧ st ≤ r0)
  (lo : s0 < st → ¬ K (R (mid + m - st)) < K (R (st - 1))) (hi : st < r0 → K (R (mid + m - 1 - st)) < K (R st)) : Cut K R a m e mid st := by
 refine ⟨by omega, by omega, by omega, fun k1 k2 => ?_, fun k1 k2 => ?_⟩
 ·exact ahd.of_not (lo (by omega)) (hl _ _ (by omega) (by omega) (by omega) k2)
 have := hi (by omega)
 rw [show mid + m - st - 1 = mid + m - 1 - st by omega]
 exact .inl this
structure Blk (K : Nat → List Int) (s n : Nat) (R : Nat → Nat) : Prop where
 srt : ∀ p q, p < q → q < n → p / s = q / s → ahd K (R p) (R q)
 own : ∀ p, p < n → R p / s = p / s
 prm : Prm 0 n (fun p => p) R
theorem Blk.one (K : Nat → List Int) (n : Nat) : Blk K 1 n (fun p => p) := ⟨fun p q h _ e => by simp only [Nat.div_one] at e; omega, fun _ _ => rfl, Prm.refl _ _ _⟩
theorem Blk.all {K : Nat → List Int} {s n : Nat} {R : Nat → Nat} (h : Blk K s n R) (hs : n ≤ s) : Srt' K R 0 n := fun p q _ h2 h3 => h.srt p q h2 h3 (by rw [Nat.div_eq_of_lt (by omega), Nat.div_eq_of_lt (by omega)])
structure BS (K : Nat → List Int) (s c n a : Nat) (R : Nat → Nat) : Prop where
 srt1 : ∀ p q, p < q → q < n → q < a → p / (s * c) = q / (s * c) → ahd K (R p) (R q)
 srt2 : ∀ p q, p < q → q < n → a ≤ p → p / s = q / s → ahd K (R p) (R q)
 own1 : ∀ p, p < n → p < a → R p / (s * c) = p / (s * c)
 own2 : ∀ p, p < n → a ≤ p → R p / s = p / s
 prm : Prm 0 n (fun p => p) R
theorem BS.start {K : Nat → List Int} {s c n : Nat} {R : Nat → Nat} (h : Blk K s n R) : BS K s c n 0 R :=
 ⟨fun _ _ _ _ h => absurd h (Nat.not_lt_zero _), fun p q h1 h2 _ e => h.srt p q h1 h2 e, fun _ _ h => absurd h (Nat.not_lt_zero _), fun p hp _ => h.own p hp, h.prm⟩
theorem BS.done {K : Nat → List Int} {s c n a : Nat} {R : Nat → Nat} (h : BS K s c n a R) (ha : n ≤ a) : Blk K (s * c) n R :=
 ⟨fun p q h1 h2 e => h.srt1 p q h1 h2 (by omega) e, fun p hp => h.own1 p hp (by omega), h.prm⟩
theorem BS.step {K : Nat → List Int} {s c n a e : Nat} {R S : Nat → Nat} (h : BS K s c n a R) (hs : 0 < s * c) (ht : a % (s * c) = 0) (he : e = a + s * c ∨ e = n ∧ n ≤ a + s * c) (hen : e ≤ n) (hae : a ≤ e) (h1 : Srt' K S a e) (h2 : Prm a e R S) : BS K s c n (a + s * c) S := by
 obtain ⟨t, rfl⟩ : ∃ t, a = t * (s * c) := ⟨a / (s * c), by have := Nat.div_add_mod a (s * c); rw [ht, Nat.add_zero, Nat.mul_comm] at this; exact this.symm⟩
 have lo : ∀ p, p < t * (s * c) → p / (s * c) < t := fun p hp => (Nat.div_lt_iff_lt_mul hs).2 hp
 have hi : ∀ p, t * (s * c) ≤ p → t ≤ p / (s * c) := fun p hp => (Nat.le_div_iff_mul_le hs).2 hp
 have up : ∀ p, p < t * (s * c) + s * c → p / (s * c) < t + 1 := fun p hp => (Nat.div_lt_iff_lt_mul hs).2 (by rw [Nat.add_mul]; omega)
 have big : ∀ p, t * (s * c) + s * c ≤ p → e = t * (s * c) + s * c → t + 1 ≤ p / (s * c) := fun p hp _ => (Nat.le_div_iff_mul_le hs).2 (by rw [Nat.add_mul]; omega)
 have out : ∀ p, p < n → t * (s * c) + s * c ≤ p → S p = R p := fun p _ k => h2.out p (by omega)
 refine ⟨fun p q k1 k2 k3 k4 => ?_, fun p q k1 k2 k3 k4 => ?_, fun p k1 k2 => ?_, fun p k1 k2 => ?_, h.prm.trans (h2.wide (Nat.zero_le _) hen)⟩
 ·by_cases kp : p < t * (s * c)
  ·have a1 := lo p kp
   by_cases kq : q < t * (s * c)
   ·rw [h2.out p (.inl kp), h2.out q (.inl kq)]
    exact h.srt1 p q k1 k2 kq k4
   have := hi q (by omega); omega
  exact h1 p q (by omega) k1 (by omega)
 ·rw [out p (by omega) k3, out q (by omega) (by omega)]
  exact h.srt2 p q k1 k2 (by omega) k4
 ·by_cases kp : p < t * (s * c)
  ·rw [h2.out p (.inl kp)]
   exact h.own1 p k1 kp
  obtain ⟨q, m1, m2, e1⟩ := h2.from_ p (by omega) (by omega)
  rw [e1]
  have e2 := h.own2 q (by omega) m1
  have e3 : R q / (s * c) = q / (s * c) := by rw [← Nat.div_div_eq_div_mul, ← Nat.div_div_eq_div_mul, e2]
  have := hi q m1
  have := up q (by omega)
  have := hi p (by omega)
  have := up p (by omega)
  omega
 rw [out p k1 k2]
 exact h.own2 p k1 (by omega)
theorem BS.runs {K : Nat → List Int} {s n a e : Nat} {R : Nat → Nat} (h : BS K s 2 n a R) (hs : 0 < s) (ht : a % (s * 2) = 0) (hm : a + s < e) (he : e ≤ a + s * 2) (hen : e ≤ n) : Srt' K R a (a + s) ∧ Srt' K R (a + s) e ∧ Low R a (a + s) e := by
 obtain ⟨t, rfl⟩ : ∃ t, a = t * 2 * s := by
  refine ⟨a / (s * 2), ?_⟩
  have h0 := Nat.div_add_mod a (s * 2)
  rw [ht, Nat.add_zero] at h0
  generalize a / (s * 2) = z at *
  rw [← h0, Nat.mul_assoc s 2 z, Nat.mul_comm s]
  rw [Nat.mul_comm 2 z]
 have lo : ∀ p, t * 2 * s ≤ p → p < t * 2 * s + s → p / s = t * 2 := fun p h1 h2 => by
  have := (Nat.div_lt_iff_lt_mul hs (x := p) (y := t * 2 + 1)).2 (by rw [Nat.add_mul]; omega)
  have := (Nat.le_div_iff_mul_le hs (x := t * 2) (y := p)).2 h1
  omega
 have hi : ∀ p, t * 2 * s + s ≤ p → p < t * 2 * s + s * 2 → p / s = t * 2 + 1 := fun p h1 h2 => by
  have := (Nat.div_lt_iff_lt_mul hs (x := p) (y := t * 2 + 2)).2 (by rw [Nat.add_mul]; omega)
  have := (Nat.le_div_iff_mul_le hs (x := t * 2 + 1) (y := p)).2 (by rw [Nat.add_mul]; omega)
  omega
 refine ⟨fun p q h1 h2 h3 => h.srt2 p q h2 (by omega) h1 (by rw [lo p h1 (by omega), lo q (by omega) h3]), fun p q h1 h2 h3 => h.srt2 p q h2 (by omega) (by omega) (by rw [hi p h1 (by omega), hi q (by omega) (by omega)]), fun p q h1 h2 h3 h4 => ?_⟩
 have e1 := h.own2 p (by omega) h1
 have e2 := h.own2 q (by omega) (by omega)
 rw [lo p h1 h2] at e1
 rw [hi q h3 (by omega)] at e2
 rcases Nat.lt_or_ge (R p) (R q) with k | k
 ·exact k
 have := Nat.div_le_div_right (c := s) k
 omega
theorem stable_list {K : Nat → List Int} {n : Nat} {R : Nat → Nat} (h : Srt' K R 0 n) (hp : Prm 0 n (fun p => p) R) :
  ((List.range n).map R).Perm (List.range n) ∧ ((List.range n).map R).Pairwise fun i j => K i < K j ∨ K i = K j ∧ i < j := by
 have hpw : ((List.range n).map R).Pairwise fun i j => K i < K j ∨ K i = K j ∧ i < j := by
  rw [List.pairwise_map]
  refine List.Pairwise.imp_of_mem (fun {p q} _ hq hpq => ?_) (List.pairwise_lt_range (n := n))
  exact h p q (Nat.zero_le _) hpq (by simpa using hq)
 refine ⟨?_, hpw⟩
 have nd : ((List.range n).map R).Nodup := hpw.imp fun {i j} hij e => by
  subst e
  rcases hij with hij | hij
  ·exact List.lt_irrefl _ hij
  omega
 rw [List.perm_ext_iff_of_nodup nd List.nodup_range]
 intro x
 rw [List.mem_map, List.mem_range]
 constructor
 ·rintro ⟨p, hp', rfl⟩
  obtain ⟨q, _, hq, e⟩ := hp.from_ p (Nat.zero_le _) (by simpa using hp')
  rw [e]; exact hq
 intro hx
 obtain ⟨p, _, hp', e⟩ := hp.fwd x (Nat.zero_le _) hx
 exact ⟨p, by simpa using hp', e⟩
theorem Srt'.congr {K : Nat → List Int} {S T : Nat → Nat} {a b : Nat} (h : Srt' K S a b) (e : ∀ p, a ≤ p → p < b → T p = S p) : Srt' K T a b := fun p q h1 h2 h3 => by
 rw [e p h1 (by omega), e q (by omega) h3]; exact h p q h1 h2 h3
theorem Low.congr {S T : Nat → Nat} {a m b : Nat} (h : Low S a m b) (e : ∀ p, a ≤ p → p < b → T p = S p) : Low T a m b := fun p q h1 h2 h3 h4 => by
 rw [e p h1 (by omega), e q (by omega) h4]; exact h p q h1 h2 h3 h4
theorem prm_lt {a e n : Nat} {R S : Nat → Nat} (h : Prm a e R S) (he : e ≤ n) (hR : ∀ p, p < n → R p < n) : ∀ p, p < n → S p < n := fun p hp => by
 by_cases k : a ≤ p ∧ p < e
 ·obtain ⟨q, _, h2, e1⟩ := h.from_ p k.1 k.2
  rw [e1]; exact hR q (by omega)
 rw [h.out p (by omega)]; exact hR p hp
def Two (K : Nat → List Int) (S : Nat → Nat) (a m b : Nat) : Prop := Srt' K S a m ∧ Srt' K S m b ∧ Low S a m b
theorem Two.one {K : Nat → List Int} {S : Nat → Nat} {a m b : Nat} (h : Two K S a m b) (k : a = m ∨ m = b) : Srt' K S a b := by
 rcases k with rfl | rfl
 ·exact h.2.1
 exact h.1
theorem Two.keep {K : Nat → List Int} {S T : Nat → Nat} {z a m b : Nat} (h : Two K S a m b) (p : Prm z a S T) (h1 : a ≤ m) : Two K T a m b :=
 ⟨h.1.congr fun q k1 _ => p.out q (.inr k1), h.2.1.congr fun q k1 _ => p.out q (.inr (by omega)), h.2.2.congr fun q k1 _ => p.out q (.inr k1)⟩
theorem mrg_end {K : Nat → List Int} {R S T U : Nat → Nat} {a mid e : Nat} (ha : a ≤ mid) (he : mid ≤ e) (hS : Prm a e R S) (hx : ∀ p q, a ≤ p → p < mid → mid ≤ q → q < e → ahd K (S p) (S q)) (hT : Srt' K T a mid) (pT : Prm a mid S T) (hU : Srt' K U mid e) (pU : Prm mid e T U) :
  Srt' K U a e ∧ Prm a e R U :=
 ⟨srt_join (mid := mid) (hT.congr fun p _ h2 => pU.out p (.inl h2)) hU (cross_prm hx pT pU), hS.trans ((pT.wide (Nat.le_refl _) he).trans (pU.wide ha (Nat.le_refl _)))⟩
end Go.Firn.Tb
namespace Go.Proofs.YtehdemcfeoiecaaGreatDoor
open Go.RowKit Go.Firn Go.Firn.Tb
theorem lt_at : ∀ {i : Nat} {L M : List Int}, (∀ k, k < i → iv L k = iv M k) → i < L.length → i < M.length → iv L i < iv M i → L < M
 | 0, x :: r, y :: s, _, _, _, h => List.cons_lt_cons_iff.2 (.inl h)
 | i + 1, x :: r, y :: s, h, h1, h2, h3 => List.cons_lt_cons_iff.2 (.inr ⟨h 0 (by omega), lt_at (fun k hk => h (k + 1) (by omega)) (by simpa using h1) (by simpa using h2) h3⟩)
theorem lt_pre : ∀ {L M : List Int}, (∀ k, k < M.length → iv L k = iv M k) → M.length < L.length → M < L
 | x :: r, [], _, _ => by simp
 | x :: r, y :: s, h, h1 => List.cons_lt_cons_iff.2 (.inr ⟨(h 0 (by simp)).symm, lt_pre (fun k hk => h (k + 1) (by simpa using hk)) (by simpa using h1)⟩)
theorem cmp_lt {L M : List Int} (h : L < M) : cmpI L M = -1 := by unfold cmpI; rw [if_pos h]
theorem cmp_gt {L M : List Int} (h : M < L) : cmpI L M = 1 := by unfold cmpI; rw [if_neg (List.lt_asymm h), if_pos h]
theorem cmp_eq {L : List Int} : cmpI L L = 0 := cmpI_zero.2 rfl
def RetZ (z : Int) (w : World) (e : Ending) (w' : World) : Prop := e = .returned (.int .i64 z) ∧ Gr w w'
def cmpZ (x y : Int) : Int := if x < y then -1 else if y < x then 1 else 0
theorem isNaN_any (x : Int) (w : World) : Calls Tryz.prog 158 #[.int .i64 x] w fun e w' => e = .returned (.bool false) ∧ w = w' := by
 go_enter Tryz.func158, Tryz.ntmps158
 go_wp2_with fail
 go_ret
 exact ⟨by simp, rfl⟩
theorem cmpc_any (x y : Int) (w : World) : Calls Tryz.prog 125 #[.int .i64 x, .int .i64 y] w fun e w' => e = .returned (.int .i64 (cmpZ x y)) ∧ w = w' := by
 have C1 := Lh (isNaN_any x)
 have C2 := Lh (isNaN_any y)
 unfold cmpZ
 by_cases h : x < y
 focus
  rw [if_pos h]
 rotate_left
 focus
  rw [if_neg h]
  by_cases k : y < x
  focus
   rw [if_pos k]
  rotate_left
  focus
   rw [if_neg k]
 all_goals
  go_enter Tryz.func125, Tryz.ntmps125
  go_wp2_with (first
   | (go_at_call 158; (with_reducible refine (C1.out _).mono ?_); rintro e w1 ⟨rfl, rfl⟩)
   | (go_at_call 158; (with_reducible refine (C2.out _).mono ?_); rintro e w1 ⟨rfl, rfl⟩))
  go_ret
  exact ⟨rfl, rfl⟩
theorem Compare_any (a a' : Option Addr) (n n' c c' : Nat) (L M : List Int) (w : World) (h1 : Rd3 w a n c L) (h2 : Rd3 w a' n' c' M) : Calls Tryz.prog 91 #[.slice a n c, .slice a' n' c'] w (RetZ (cmpI L M) w) := by
 have H1 := Lh h1
 have H2 := Lh h2
 have C := Lh cmpc_any
 clear h1 h2
 go_enter Tryz.func91, Tryz.ntmps91
 go_wp2_with fail
 go_loopw [11] (fun s wr => ∃ i : Nat, s = .int .i64 i ∧ wr = w ∧ Hid (i ≤ n ∧ i ≤ n') ∧ Hid (∀ k, k < i → iv L k = iv M k)) (fun s _ => n - (intOf s).toNat)
 case atStart => exact ⟨0, rfl, rfl, Lh (by omega), Lh (fun k hk => by omega)⟩
 case round =>
  obtain ⟨i, rfl, hw, Hi, HE⟩ := hrel
  subst hw
  have hn := H1.out.1
  have hn' := H2.out.1
  have hi := Hi.out
  have hm := H1.out.2.1
  have hm2 := H1.out.2.2.1
  by_cases hlt : i < n
  ·have i1 : (i : Int) < (n : Int) := by omega
   obtain ⟨b, o, rfl, hc⟩ := H1.out.2.2.2.2.at hlt
   have z1 := hc i hlt
   by_cases hlt' : i < n'
   ·have i2 : (i : Int) < (n' : Int) := by omega
    have i3 : ¬ (n' : Int) ≤ (i : Int) := by omega
    obtain ⟨b', o', rfl, hc'⟩ := H2.out.2.2.2.2.at hlt'
    have z2 := hc' i hlt'
    have HC := Lh (C.out (iv L i) (iv M i))
    have HX := Lh (show (iv L i < iv M i → cmpI L M = -1) ∧ (iv M i < iv L i → cmpI L M = 1) ∧ (¬ iv L i < iv M i → ¬ iv M i < iv L i → iv L i = iv M i) from ⟨fun h => cmp_lt (lt_at HE.out (by omega) (by omega) h), fun h => cmp_gt (lt_at (fun k hk => (HE.out k hk).symm) (by omega) (by omega) h), fun h k => by omega⟩)
    generalize hx : iv L i = x at *
    generalize hy : iv M i = y at *
    have HXY := Lh (And.intro hx hy)
    have HL := Lh (And.intro hlt hlt')
    have HM := Lh (And.intro hm hm2)
    clear hc hc' hx hy hn hn' hi hlt hlt' hm hm2
    unfold cmpZ at HC
    by_cases h : x < y
    ·rw [if_pos h] at HC
     have hz := HX.out.1 h
     rw [hz]
     clear h hz
     go_wp2_with (go_at_call 125; (with_reducible refine (HC.out _).mono ?_); rintro e w1 ⟨rfl, rfl⟩)
     go_ret
     exact ⟨rfl, Gr.refl _⟩
    by_cases k : y < x
    ·rw [if_neg h, if_pos k] at HC
     have hz := HX.out.2.1 k
     rw [hz]
     clear h k hz
     go_wp2_with (go_at_call 125; (with_reducible refine (HC.out _).mono ?_); rintro e w1 ⟨rfl, rfl⟩)
     go_ret
     exact ⟨rfl, Gr.refl _⟩
    rw [if_neg h, if_neg k] at HC
    have hz := Lh (HX.out.2.2 h k)
    clear h k
    go_wp2_with (go_at_call 125; (with_reducible refine (HC.out _).mono ?_); rintro e w1 ⟨rfl, rfl⟩)
    have hl := HL.out
    have hm := HM.out
    have e3 : wrap64 ((i : Int) + 1) = ((i + 1 : Nat) : Int) := by rw [IntWalk.wrap64_in _ (by omega)]; omega
    go_roundw
    case rel => exact ⟨i + 1, by first | (rw [e3]) | rfl | simp, by trivial, Lh (by clear e3; omega), Lh (fun k hk => by
     rcases Nat.lt_succ_iff_lt_or_eq.1 hk with q | rfl
     ·exact HE.out k q
     rw [HXY.out.1, HXY.out.2]; exact hz.out)⟩
    case measure => first | (rw [e3]; clear e3; simp only [intOf]; omega) | (clear e3; simp only [intOf]; omega)
   have i3 : (n' : Int) ≤ (i : Int) := by omega
   have hz : cmpI L M = 1 := cmp_gt (lt_pre (fun k hk => HE.out k (by omega)) (by omega))
   rw [hz]
   clear hc hz hn hn' hi hlt' hm hm2
   go_wp2_with fail
   go_ret
   exact ⟨rfl, Gr.refl _⟩
  have i1 : ¬ (i : Int) < (n : Int) := by omega
  by_cases hq : n < n'
  ·have q1 : (n : Int) < (n' : Int) := by omega
   have hz : cmpI L M = -1 := cmp_lt (lt_pre (fun k hk => (HE.out k (by omega)).symm) (by omega))
   rw [hz]
   clear hn hn' hi hlt hm hm2
   go_wp2_with fail
   go_ret
   exact ⟨rfl, Gr.refl _⟩
  have q1 : ¬ (n : Int) < (n' : Int) := by omega
  have hz : cmpI L M = 0 := cmpI_zero.2 (iv_ext (by omega) (fun k hk => HE.out k (by omega)))
  rw [hz]
  clear hn hn' hi hlt hm hm2
  go_wp2_with fail
  go_ret
  exact ⟨rfl, Gr.refl _⟩
theorem Equal_any (a a' : Option Addr) (n n' c c' : Nat) (L M : List Int) (w : World) (h1 : Rd3 w a n c L) (h2 : Rd3 w a' n' c' M) : Calls Tryz.prog 134 #[.slice a n c, .slice a' n' c'] w (RetB (decide (L = M)) w) := by
 have H1 := Lh h1
 have H2 := Lh h2
 have hn := h1.1
 have hn' := h2.1
 clear h1 h2
 by_cases he : n = n'
 ·have e0 : (n : Int) = (n' : Int) := by omega
  have HN := Lh (And.intro hn (And.intro hn' he))
  clear hn hn' he
  go_enter Tryz.func134, Tryz.ntmps134
  go_wp2_with fail
  go_loopw [13] (fun s wr => ∃ i : Nat, s = .int .i64 i ∧ Gr w wr ∧ Hid (i ≤ n) ∧ Hid (∀ k, k < i → iv L k = iv M k)) (fun s _ => n - (intOf s).toNat)
  case atStart => exact ⟨0, rfl, Gr.refl w, Lh (by omega), Lh (fun k hk => by omega)⟩
  case round =>
   obtain ⟨i, rfl, hg, Hi, HE⟩ := hrel
   have HG := Lh hg
   clear hg
   have hN := HN.out
   have hi := Hi.out
   have hm := H1.out.2.1
   have hm2 := H1.out.2.2.1
   by_cases hlt : i < n
   ·have i1 : (i : Int) < (n : Int) := by omega
    have i2 : (i : Int) < (n' : Int) := by omega
    obtain ⟨b, o, rfl, hc⟩ := (H1.out.2.2.2.2.gr HG.out).at hlt
    have z1 := hc i hlt
    obtain ⟨b', o', rfl, hc'⟩ := (H2.out.2.2.2.2.gr HG.out).at (show i < n' by omega)
    have z2 := hc' i (by omega)
    have HX := Lh (show iv L i ≠ iv M i → decide (L = M) = false from fun h => decide_eq_false (fun e => h (by rw [e])))
    have HS := Lh (show iv L i = iv M i → ∀ k, k < i + 1 → iv L k = iv M k from fun h k hk => by
     rcases Nat.lt_succ_iff_lt_or_eq.1 hk with q | rfl
     ·exact HE.out k q
     exact h)
    generalize iv L i = x at *
    generalize iv M i = y at *
    have HL := Lh hlt
    clear hc hc' hN hi hlt e0
    by_cases h : x = y
    ·subst h
     have HS2 := Lh (HS.out rfl)
     clear HX HS
     go_wp2_with fail
     go_quiet (fail)
     go_wp2_with fail
     have hl := HL.out
     have e3 : wrap64 ((i : Int) + 1) = ((i + 1 : Nat) : Int) := by rw [IntWalk.wrap64_in _ (by omega)]; omega
     go_roundw
     case rel => exact ⟨i + 1, by first | (rw [e3]) | rfl | simp, HG.out.drewN _, Lh (by clear e3; omega), HS2⟩
     case measure => first | (rw [e3]; clear e3; simp only [intOf]; omega) | (clear e3; simp only [intOf]; omega)
    have hd : decide (x = y) = false := decide_eq_false h
    rw [HX.out h]
    clear HX HS
    go_wp2_with fail
    go_quiet (fail)
    go_wp2_with fail
    go_ret
    exact ⟨rfl, HG.out.drewN _⟩
   have i1 : ¬ (i : Int) < (n : Int) := by omega
   have i2 : ¬ (i : Int) < (n' : Int) := by omega
   have hz : decide (L = M) = true := decide_eq_true (iv_ext (by omega) (fun k hk => HE.out k (by omega)))
   rw [hz]
   clear hN hi hlt hm hm2 e0
   go_wp2_with fail
   go_ret
   exact ⟨rfl, HG.out⟩
 have e0 : ¬ (n : Int) = (n' : Int) := by omega
 have hz : decide (L = M) = false := decide_eq_false (fun e => he (by rw [hn, hn', e]))
 rw [hz]
 clear hn hn' hz
 go_enter Tryz.func134, Tryz.ntmps134
 go_wp2_with fail
 go_ret
 exact ⟨rfl, Gr.refl w⟩
end Go.Proofs.YtehdemcfeoiecaaGreatDoor
namespace Go.Firn.Tb
section
variable {D : Type}
theorem plc_sumG {G : D → Prop} (μ : D → Nat) (add : D → D → D) (hp : ∀ a b, G a → G b → μ (add a b) ≤ μ a + μ b) : ∀ (T : List (List Int × D)) (v : List Int) (d : D), (∀ x ∈ T, G x.2) → G d → sumT μ (plc add T v d) ≤ sumT μ T + μ d
 | [], v, d, _, _ => by simp [plc, sumT]
 | y :: r, v, d, hT, hd => by
  unfold plc
  split
  ·rw [sumT_cons, sumT_cons]
   have := plc_sumG μ add hp r v d (fun x hx => hT x (List.mem_cons_of_mem _ hx)) hd
   omega
  split
  ·rw [sumT_cons, sumT_cons]
   have := hp y.2 d (hT y List.mem_cons_self) hd
   simp only
   omega
  rw [sumT_cons]
  simp only
  omega
theorem gat_sumG {G : D → Prop} (μ : D → Nat) (add : D → D → D) (hg : ∀ a b, G a → G b → G (add a b)) (hp : ∀ a b, G a → G b → μ (add a b) ≤ μ a + μ b) (L : List (List Int × D)) : (∀ x ∈ L, G x.2) → sumT μ (gat add L) ≤ sumT μ L := by
 refine snoc_ind (p := fun L => (∀ x ∈ L, G x.2) → sumT μ (gat add L) ≤ sumT μ L) (by simp [gat, sumT]) (fun L z ih h => ?_) L
 rw [gat_snoc, sumT_app]
 have h' : ∀ x ∈ L, G x.2 := fun x hx => h x (by simp [hx])
 have := plc_sumG μ add hp (gat add L) z.1 z.2 (gat_all add hg L h') (h z (by simp))
 have := ih h'
 have e : sumT μ [z] = μ z.2 := by simp [sumT]
 omega
theorem sumT_take (μ : D → Nat) (L : List (List Int × D)) (k : Nat) : sumT μ (L.take k) ≤ sumT μ L := by
 have := sumT_app μ (L.take k) (L.drop k)
 rw [List.take_append_drop] at this
 omega
theorem gat_next {add : D → D → D} {L : Tbl D} {v : List Int} {d : D} (hle : ∀ x ∈ L, ¬ v < x.1) :
  (gat add L = [] ∧ gat add (L ++ [(v, d)]) = [(v, d)]) ∨ ∃ T u e, gat add L = T ++ [(u, e)] ∧ ((u = v ∧ gat add (L ++ [(v, d)]) = T ++ [(v, add e d)]) ∨ (u ≠ v ∧ gat add (L ++ [(v, d)]) = T ++ [(u, e)] ++ [(v, d)])) := by
 rw [gat_snoc]
 simp only
 have hk : ∀ x ∈ gat add L, ¬ v < x.1 := fun x hx => by
  obtain ⟨y, hy, e⟩ := gat_keys add L x hx
  rw [← e]; exact hle y hy
 have hs := gat_srt add L
 generalize gat add L = M at *
 rcases List.eq_nil_or_concat M with rfl | ⟨T, z, rfl⟩
 ·exact .inl ⟨rfl, rfl⟩
 refine .inr ⟨T, z.1, z.2, by simp, ?_⟩
 rw [List.concat_eq_append] at hs hk ⊢
 obtain ⟨_, _, h3⟩ := List.pairwise_append.1 hs
 by_cases e : z.1 = v
 ·refine .inl ⟨e, ?_⟩
  obtain ⟨zv, zd⟩ := z
  simp only at e
  subst e
  exact plc_same add T zv zd d fun x hx => h3 x hx (zv, zd) (by simp)
 refine .inr ⟨e, ?_⟩
 have hz : z.1 < v := tri (hk z (by simp)) (fun k => e k.symm)
 have := plc_last add (T ++ [z]) v d fun x hx => by
  rcases List.mem_append.1 hx with hx | hx
  ·exact List.lt_trans (h3 x hx z (by simp)) hz
  simp at hx; subst hx; exact hz
 exact this
end
end Go.Firn.Tb
/-
 DERIVED: THE SHELF's CONTRACTS AT THIS DUMP, IN PLAIN WORDS (tools/lay-plain.mjs out of 'YtehdemcfeoiecaaGreatDoorShelf.lean', which tools/lay-shelf.mjs wrote): THE SAME DECLARATIONS UNDER THE SAME NAMES: 'import', 'namespace', 'open', 'def', 'theorem' AND NOTHING ELSE: no command of the shelf's: FOR A HAND-IN. Each laying: the table of numbers ('.._ren') and one theorem, a field a fact of the dump's own or the kernel's comparison; each contract: ONE APPLICATION.
-/
namespace Go.Proofs
open Go.Shelf
def Tryz.clone73_ren : Go.Shelf.Ren := ⟨fun | 15 => 73 | n => n, fun | 22 => 23 | 3 => 3 | 4 => 4 | n => n, fun | n => n⟩
theorem Tryz.clone73 : Go.Proofs.Lays2.n15 Tryz.prog Tryz.clone73_ren := {
 mixed := by kernel_rfl
 f15 := Tryz.func73.trans (congrArg some (by kernel_rfl))
 t3 := Tryz.underlying3
 a3 := Tryz.isAgg3
 z3 := Tryz.sizeOf3
 v3 := Tryz.zeroValue3
 t4 := Tryz.underlying4
 a4 := Tryz.isAgg4
 z4 := Tryz.sizeOf4
 v4 := Tryz.zeroValue4
 t22 := Tryz.underlying23
 a22 := Tryz.isAgg23
 z22 := Tryz.sizeOf23
 v22 := Tryz.zeroValue23
 i3 := by kernel_rfl }
def Tryz.del103_ren : Go.Shelf.Ren := ⟨fun | 23 => 103 | n => n, fun | 22 => 23 | 3 => 3 | 4 => 4 | 0 => 0 | n => n, fun | n => n⟩
theorem Tryz.del103 : Go.Proofs.Lays2.n23 Tryz.prog Tryz.del103_ren := {
 mixed := by kernel_rfl
 f23 := Tryz.func103.trans (congrArg some (by kernel_rfl))
 t0 := Tryz.underlying0
 a0 := Tryz.isAgg0
 z0 := Tryz.sizeOf0
 v0 := Tryz.zeroValue0
 t3 := Tryz.underlying3
 a3 := Tryz.isAgg3
 z3 := Tryz.sizeOf3
 v3 := Tryz.zeroValue3
 t4 := Tryz.underlying4
 a4 := Tryz.isAgg4
 z4 := Tryz.sizeOf4
 v4 := Tryz.zeroValue4
 t22 := Tryz.underlying23
 a22 := Tryz.isAgg23
 z22 := Tryz.sizeOf23
 v22 := Tryz.zeroValue23
 i3 := by kernel_rfl }
def Tryz.grow168_ren : Go.Shelf.Ren := ⟨fun | 4 => 168 | n => n, fun | 22 => 23 | 25 => 3 | 3 => 3 | 4 => 4 | 9 => 9 | 20 => 20 | 0 => 0 | n => n, fun | n => n⟩
theorem Tryz.grow168 : Go.Proofs.Lays8.n4 Tryz.prog Tryz.grow168_ren := {
 mixed := by kernel_rfl
 f4 := ⟨Tryz.f168.name, by decide, Tryz.func168.trans (congrArg some (by kernel_rfl))⟩
 t0 := Tryz.underlying0
 a0 := Tryz.isAgg0
 z0 := Tryz.sizeOf0
 v0 := Tryz.zeroValue0
 t3 := Tryz.underlying3
 a3 := Tryz.isAgg3
 z3 := Tryz.sizeOf3
 v3 := Tryz.zeroValue3
 t4 := Tryz.underlying4
 a4 := Tryz.isAgg4
 z4 := Tryz.sizeOf4
 v4 := Tryz.zeroValue4
 t9 := Tryz.underlying9
 a9 := Tryz.isAgg9
 z9 := Tryz.sizeOf9
 v9 := Tryz.zeroValue9
 t20 := Tryz.underlying20
 a20 := Tryz.isAgg20
 z20 := Tryz.sizeOf20
 v20 := Tryz.zeroValue20
 t22 := Tryz.underlying23
 a22 := Tryz.isAgg23
 z22 := Tryz.sizeOf23
 v22 := Tryz.zeroValue23 }
def Tryz.grow171_ren : Go.Shelf.Ren := ⟨fun | 4 => 171 | n => n, fun | 22 => 109 | 25 => 121 | 3 => 3 | 4 => 4 | 9 => 9 | 20 => 20 | 0 => 0 | n => n, fun | n => n⟩
theorem Tryz.grow171 : Go.Proofs.Lays8.n4 Tryz.prog Tryz.grow171_ren := {
 mixed := by kernel_rfl
 f4 := ⟨Tryz.f171.name, by decide, Tryz.func171.trans (congrArg some (by kernel_rfl))⟩
 t0 := Tryz.underlying0
 a0 := Tryz.isAgg0
 z0 := Tryz.sizeOf0
 v0 := Tryz.zeroValue0
 t3 := Tryz.underlying3
 a3 := Tryz.isAgg3
 z3 := Tryz.sizeOf3
 v3 := Tryz.zeroValue3
 t4 := Tryz.underlying4
 a4 := Tryz.isAgg4
 z4 := Tryz.sizeOf4
 v4 := Tryz.zeroValue4
 t9 := Tryz.underlying9
 a9 := Tryz.isAgg9
 z9 := Tryz.sizeOf9
 v9 := Tryz.zeroValue9
 t20 := Tryz.underlying20
 a20 := Tryz.isAgg20
 z20 := Tryz.sizeOf20
 v20 := Tryz.zeroValue20
 t22 := Tryz.underlying109
 a22 := Tryz.isAgg109
 z22 := Tryz.sizeOf109
 v22 := Tryz.zeroValue109 }
end Go.Proofs
namespace Go.Proofs.YtehdemcfeoiecaaGreatDoor
open Go.RowKit Go.Firn Go.Firn.Tb Go.Sort
theorem typed_putRow {α : Type} [Inhabited α] {enc : α → Value} {w : World} {b : Nat} {d : Array α} {cur : Array Value} {e : TypeId} {fz : Nat × Nat} (h : w.heap[b]? = some (.cells cur e fz)) : ∃ cur', (putRow enc w b 0 d).heap[b]? = some (.cells cur' e fz) := by
 unfold putRow mapBlock
 simp only [Array.getElem?_modify, h, if_true]
 exact ⟨_, rfl⟩
def RetN3 (L : List Int) (w : World) (e : Ending) (w' : World) : Prop := ∃ b c cur fz, e = .returned (.slice (some ⟨b, 0, none⟩) L.length c) ∧ L.length ≤ c ∧ c ≤ 9223372036854775807 ∧ RdI w' (some ⟨b, 0, none⟩) L.length (iv L) ∧ w'.heap[b]? = some (.cells cur 3 fz) ∧ w.heap.size ≤ b ∧ Gr w w' ∧ (∀ i, i < L.length → w'.frozen? ⟨b, i, none⟩ = false)
theorem RetN3.rd {L : List Int} {w w' : World} {e : Ending} (h : RetN3 L w e w') : ∃ b c, e = .returned (.slice (some ⟨b, 0, none⟩) L.length c) ∧ Rd3 w' (some ⟨b, 0, none⟩) L.length c L ∧ (∀ w0, Old w0 w' 3 L.length (some ⟨b, 0, none⟩)) ∧ Gr w w' := by
 obtain ⟨b, c, cur, fz, rfl, h1, h2, h3, h4, _, h6, _⟩ := h
 exact ⟨b, c, rfl, ⟨rfl, h1, h2, (fun k => by cases k), h3⟩, fun w0 => .inr fun ad ha => by
  obtain rfl := Option.some.inj ha
  exact .inr ⟨cur, fz, h4⟩, h6⟩
theorem owns_N3 {w w' : World} {v : Value} {L : List Int} (h : w'.ownsRow w.heap.size 3 1 v L.length (L.map (Value.int .i64))) (hL : 0 < L.length) (g : Gr w w') : RetN3 L w (.returned v) w' := by
 have h0 := h
 obtain ⟨hl, hv⟩ := h
 rcases hv with ⟨rfl, hz⟩ | ⟨b, cap, cur, rfl, hb, hg, hnc, hcm, hcs, htake⟩
 ·omega
 refine ⟨b, cap, cur, _, rfl, hnc, by unfold maxLen at hcm; omega, .inr ⟨b, 0, rfl, fun i hi => ?_⟩, hg, hb, g, fun i _ => h0.frozenAt _⟩
 have hc := h0.cells (g := b) rfl i (.int .i64 (iv L i)) (by rw [List.getElem?_map, iv_get hi]; rfl)
 rw [add_flat rfl] at hc
 exact hc
theorem Clone3_any (a : Option Addr) (n c : Nat) (L : List Int) (w : World) (h : Rd3 w a n c L) (hn : 0 < n) (hN : n ≤ 1000000) : Calls Tryz.prog 73 #[.slice a n c] w (RetN3 L w) := by
 obtain ⟨rfl, h2, h3, h4, h5⟩ := h
 obtain ⟨b, o, rfl, hc⟩ := h5.at hn
 have h : Calls Tryz.prog 73 #[.slice (some ⟨b, o, none⟩) L.length c] w _ := Any.slices_Clone_int Tryz.clone73 b o L.length c L w (Nat.le_refl _) (by omega) (fun j hj => hc j hj)
 refine h.mono fun e w' ⟨v, e1, e2, _, e4⟩ => ?_
 rw [List.take_length] at e2
 subst e1
 exact owns_N3 e2 hn e4
theorem erase_at {L : List Int} {i p : Nat} (hi : i < L.length) (hp : p < L.length - 1) : (L.take i ++ L.drop (i + 1) ++ List.replicate (i + 1 - i) 0)[p]? = some (iv (L.eraseIdx i) p) := by
 have e : L.eraseIdx i = L.take i ++ L.drop (i + 1) := List.eraseIdx_eq_take_drop_succ ..
 rw [← e, List.getElem?_append_left (by rw [List.length_eraseIdx, if_pos hi]; omega), iv_get (by rw [List.length_eraseIdx, if_pos hi]; omega)]
theorem Delete3_any (b c i : Nat) (L : List Int) (cur : Array Value) (fz : Nat × Nat) (w : World) (hi : i < L.length) (hc : L.length ≤ c ∧ c ≤ 9223372036854775807) (hr : RdI w (some ⟨b, 0, none⟩) L.length (iv L)) (hf : ∀ i, i < L.length → w.frozen? ⟨b, i, none⟩ = false) (ht : w.heap[b]? = some (.cells cur 3 fz)) :
  Calls Tryz.prog 103 #[.slice (some ⟨b, 0, none⟩) L.length c, .int .i64 i, .int .i64 (i + 1 : Nat)] w fun e w' => ∃ cur', e = .returned (.slice (some ⟨b, 0, none⟩) (L.length - 1) c) ∧ Wr b w w' ∧ RdI w' (some ⟨b, 0, none⟩) (L.length - 1) (iv (L.eraseIdx i)) ∧ w'.heap[b]? = some (.cells cur' 3 fz) := by
 obtain ⟨b', o', e0, hcc⟩ := hr.at (show 0 < L.length by omega)
 simp only [Option.some.injEq, Addr.mk.injEq, and_true] at e0
 obtain ⟨rfl, rfl⟩ := e0
 have hH : Holds (Value.int .i64) w b 0 L.toArray := fun j hj => by
  have hj' : j < L.length := by simpa using hj
  have := hcc j hj'
  rw [Nat.zero_add] at this ⊢
  refine ⟨?_, hf j hj'⟩
  rw [this]
  simp [iv, List.getD_eq_getElem?_getD, hj']
 have h : Calls Tryz.prog 103 #[.slice (some ⟨b, 0, none⟩) L.length c, .int .i64 i, .int .i64 (i + 1 : Nat)] w _ := Any.slices_Delete_int Tryz.del103 b 0 c i (i + 1) L w hH hc.1 (by omega) (by omega) (by omega)
 refine h.mono fun e w' ⟨e1, q, e2⟩ => ?_
 have hs : (L.take i ++ L.drop (i + 1) ++ List.replicate (i + 1 - i) 0).toArray.size = L.toArray.size := by simp; omega
 have H2 := holds_putRow (Value.int .i64) (Sort.ahead w q) b 0 _ _ (holds_ahead (Value.int .i64) w q b 0 _ hH) hs
 have G := grownBy_sortedI (w := w) (g := b) (n := q) (os := #[]) (L.take i ++ L.drop (i + 1) ++ List.replicate (i + 1 - i) 0).toArray
 rw [grow_empty] at G
 obtain ⟨cur', hcur⟩ := typed_putRow (enc := Value.int .i64) (d := (L.take i ++ L.drop (i + 1) ++ List.replicate (i + 1 - i) 0).toArray) (w := Sort.ahead w q) ht
 rw [← e2] at H2 G hcur
 refine ⟨cur', by rw [e1, show i + 1 - i = 1 by omega], G, .inr ⟨b, 0, rfl, fun p hp => ?_⟩, hcur⟩
 have k := H2 p (by simp; omega)
 rw [Nat.zero_add] at k ⊢
 rw [k.1]
 have g := erase_at hi hp
 congr 2
 simp only [List.getElem!_toArray, List.getElem!_eq_getElem?_getD]
 rw [g]
 rfl
theorem info3 : (Tryz.prog.info? 3).map (fun i => (i.zero, i.size, i.bytes)) = some (some (.int .i64 0), 1, 8) := by kernel_rfl
def OwnL (w0 w : World) (v : Value) (L : List Int) : Prop := w.ownsRow w0.heap.size 3 1 v L.length (L.map (Value.int .i64)) ∧ Gr w0 w
theorem OwnL.gr {w0 w w' : World} {v : Value} {L : List Int} (h : OwnL w0 w v L) (g : Gr w w') : OwnL w0 w' v L :=
 ⟨h.1.kept (row := none) ⟨g.os, g.tape, g.output, Gr.size g, fun k hk _ => Below.block g k hk⟩ (by cases v.ownBlock <;> simp), h.2.trans g⟩
theorem OwnL.nil (w : World) : OwnL w w (.slice none 0 0) [] := ⟨World.ownsRow_nil w _ _ _, Gr.refl w⟩
theorem OwnL.nil' {w0 w : World} (g : Gr w0 w) : OwnL w0 w (.slice none 0 0) [] := ⟨World.ownsRow_nil w _ _ _, g⟩
theorem OwnL.rd {w0 w : World} {v : Value} {L : List Int} (h : OwnL w0 w v L) : ∃ a c, v = .slice a L.length c ∧ Rd3 w a L.length c L ∧ Old w0 w 3 L.length a := owns3 h.1 (Nat.le_refl _)
section
variable {ops : Array Oper} {rest : List Oper} {o : Oper} {a : Act} {Q : Exit → Act → World → Prop}
theorem wp_cat_ints {o : Oper} {a : Act} {K : Act → World → Prop} {Q : Exit → Act → World → Prop} (s x : Operand)
  (ho : o.op = .call { callee := .builtin .append, args := #[s, x], argTypes := #[23, 23] })
  {w0 w : World} (v : Value) (L M : List Int) (hs : a.eval s = v) (hown : OwnL w0 w v L) (b off n c : Nat) (hx : a.eval x = .slice (some ⟨b, off, none⟩) n c) (hn : n = M.length) (hc : ∀ i, i < n → w.cell? ⟨b, off + i, none⟩ = some (.int .i64 (iv M i))) (hk : L.length + n ≤ 1000000)
  (h : ∀ v' w', OwnL w0 w' v' (L ++ M) → w.grownBy w' v.ownBlock → K (a.put o.dst v') w') : o.wp Tryz.prog a w K Q := by
 obtain ⟨i0, hi, hz0, hz1, hz2⟩ := info_int info3
 subst hn
 refine wp_append_own w s x 23 ho w0.heap.size 3 i0 (.int .i64 0) 1 8 Tryz.underlying23 hi hz0 hz1 hz2 rfl (by decide) v L.length (L.map (Value.int .i64)) hs hown.1 ⟨b, off, none⟩ M.length c (M.map (Value.int .i64)) hx (by simp) ?_ ?_ ?_ ?_ hown.2.size ?_
 ·intro j u hu
  have hj : j < M.length := by
   rcases Nat.lt_or_ge j M.length with q | q
   ·exact q
   rw [List.getElem?_eq_none (by simpa using q)] at hu; cases hu
  rw [List.getElem?_map, iv_get hj] at hu
  simp at hu
  rw [add_flat rfl, ← hu]
  exact hc j hj
 ·intro u hu
  obtain ⟨z, _, rfl⟩ := List.mem_map.1 hu
  rfl
 ·unfold maxLen; omega
 ·omega
 intro v' w' h1 h2 _
 rw [← List.map_append] at h1
 refine h v' w' ⟨?_, hown.2.grown h2 fun k hk => (hown.1.lt k hk).1⟩ h2
 rw [List.length_append]; exact h1
theorem wpList_cat_ints (hgd : o.guard = none) (s x : Operand)
  (ho : o.op = .call { callee := .builtin .append, args := #[s, x], argTypes := #[23, 23] })
  {w0 w : World} (v : Value) (L M : List Int) (hs : a.eval s = v) (hown : OwnL w0 w v L) (b off n c : Nat) (hx : a.eval x = .slice (some ⟨b, off, none⟩) n c) (hn : n = M.length) (hc : ∀ i, i < n → w.cell? ⟨b, off + i, none⟩ = some (.int .i64 (iv M i))) (hk : L.length + n ≤ 1000000)
  (h : ∀ v' w', OwnL w0 w' v' (L ++ M) → w.grownBy w' v.ownBlock → wpList Tryz.prog ops Q rest (a.put o.dst v') w') : wpList Tryz.prog ops Q (o :: rest) a w :=
 wpList_plain hgd fun _ hK => wp_cat_ints s x ho v L M hs hown b off n c hx hn hc hk fun v' w' h1 h2 => hK _ _ (h v' w' h1 h2)
end
theorem Grow3_any (z : Int) (k : Nat) (hz : z = k) (h1 : 1 ≤ k) (hk : k ≤ 100000) (w0 w : World) (g : Gr w0 w) : Calls Tryz.prog 168 #[.slice none 0 0, .int .i64 z] w fun e w' => ∃ v, e = .returned v ∧ OwnL w0 w' v [] ∧ Gr w0 w' := by
 subst hz
 obtain ⟨i0, hi, hz0, hz1, hz2⟩ := info_int info3
 have h : Calls Tryz.prog 168 #[.slice none 0 0, .int .i64 k] w _ := Any8.slices_Grow_grow Tryz.grow168 i0 _ hi hz0 (by rw [hz1]; omega) none 0 0 k [] w (Nat.le_refl _) (by omega) (by rw [hz2]; omega) (by omega) (by simp) (fun _ => rfl) (fun a ha => by cases ha)
 refine h.mono ?_
 rintro e w' ⟨rfl, rfl⟩
 have gg : Gr w0 (w.drew.alloc (.cells ((([] : List Value).toArray ++ Builtin.zeroCells (Value.int .i64 0).cells (0 + k - 0) ++ Builtin.zeroCells (Value.int .i64 0).cells (grownCap w (0 + k) 0 (Tryz.grow168_ren.t 25) - (0 + k)))) (Tryz.grow168_ren.t 25))) := (g.drew).alloc _
 have ge := grownCap_ge w (0 + k) 0 (Tryz.grow168_ren.t 25)
 have hm := grownCap_le_maxLen w (0 + k) 0 (Tryz.grow168_ren.t 25) (by unfold maxLen; omega)
 refine ⟨_, rfl, ⟨⟨rfl, .inr ⟨w.heap.size, _, _, rfl, g.size, heap_alloc_new w.drew _, Nat.zero_le _, hm, ?_, rfl⟩⟩, gg⟩, gg⟩
 simp only [Array.size_append, List.size_toArray, size_zeroCells, List.length_nil]
 have : (Value.int .i64 0).cells.size = 1 := rfl
 rw [this]
 omega
theorem Concat3_any (b o bb n c n' c' : Nat) (a' : Option Addr) (L M : List Int) (w : World) (hn : 1 ≤ n) (hnL : n = L.length) (hnM : n' = M.length) (h1 : n ≤ 1000) (h2 : n' ≤ 1000) (hr : ∀ i, i < n → w.cell? ⟨b, o + i, none⟩ = some (.int .i64 (iv L i))) (hr' : ∃ b' o', a' = some ⟨b', o', none⟩ ∧ ∀ i, i < n' → w.cell? ⟨b', o' + i, none⟩ = some (.int .i64 (iv M i)))
  (hb0 : w.cell? ⟨bb, 0, none⟩ = some (.slice (some ⟨b, o, none⟩) n c)) (hb1 : w.cell? ⟨bb, 1, none⟩ = some (.slice a' n' c')) :
  Calls Tryz.prog 131 #[.slice (some ⟨bb, 0, none⟩) 2 2] w (RetN3 (L ++ M) w) := by
 obtain ⟨b', o', rfl, hr'⟩ := hr'
 have HR := Lh (fun w1 (g : Gr w w1) => show ∀ i, i < n → w1.cell? ⟨b, o + i, none⟩ = some (.int .i64 (iv L i)) from fun i hi => g.cell (hr i hi))
 have HR' := Lh (fun w1 (g : Gr w w1) => show ∀ i, i < n' → w1.cell? ⟨b', o' + i, none⟩ = some (.int .i64 (iv M i)) from fun i hi => g.cell (hr' i hi))
 have B0 := Lh hb0
 have B1 := Lh hb1
 have HN := Lh (And.intro hnL (And.intro hnM (And.intro h1 (And.intro h2 hn))))
 have s1 : IntKind.i64.wrap ((n : Int) + (n' : Int)) = (n : Int) + (n' : Int) := IntWalk.i64_in _ (by omega)
 have s2 : IntKind.i64.wrap (n : Int) = (n : Int) := IntWalk.i64_in _ (by omega)
 clear hr hr' hb0 hb1 hnL hnM h1 h2 hn
 go_enter Tryz.func131, Tryz.ntmps131
 go_wp2
 go_loopw [3, 11] (fun sz si wr => wr = w ∧ ((si = .int .i64 0 ∧ sz = .int .i64 0) ∨ (si = .int .i64 1 ∧ sz = .int .i64 n) ∨ (si = .int .i64 2 ∧ sz = .int .i64 ((n : Int) + (n' : Int))))) (fun _ si _ => 2 - (intOf si).toNat)
 case atStart => exact ⟨rfl, .inl ⟨rfl, rfl⟩⟩
 case round =>
  obtain ⟨hw, hs⟩ := hrel
  subst hw
  rcases hs with ⟨rfl, rfl⟩ | ⟨rfl, rfl⟩ | ⟨rfl, rfl⟩
  ·have b0 := B0.out
   have z1 : decide ((n : Int) < 0) = false := by simp
   go_wp2_with fail
   go_roundw
   case rel => exact ⟨by trivial, .inr (.inl ⟨rfl, rfl⟩)⟩
   case measure => simp [intOf]
  ·have b1 := B1.out
   have z1 : decide ((n : Int) + (n' : Int) < 0) = false := by rw [decide_eq_false_iff_not]; clear s1 s2; omega
   go_wp2_with fail
   go_roundw
   case rel => exact ⟨by trivial, .inr (.inr ⟨rfl, rfl⟩)⟩
   case measure => simp [intOf]
  have CG := Lh (Grow3_any ((n : Int) + (n' : Int)) (n + n') (by omega) (by have := HN.out; omega) (by have := HN.out; omega) wr wr (Gr.refl wr))
  go_wp2_with (go_at_call 168; (with_reducible refine CG.out.mono ?_); rintro e w1 ⟨v1, rfl, ho1, g1⟩; have OW := Lh ho1; have GW := Lh g1; clear ho1 g1)
  go_loopw [6, 27] (fun sv si wx => (si = .int .i64 0 ∧ OwnL wr wx sv []) ∨ (si = .int .i64 1 ∧ OwnL wr wx sv L) ∨ (si = .int .i64 2 ∧ OwnL wr wx sv (L ++ M))) (fun _ si _ => 2 - (intOf si).toNat)
  case atStart => exact .inl ⟨rfl, OW.out⟩
  case round =>
   rcases hrel with ⟨rfl, ho⟩ | ⟨rfl, ho⟩ | ⟨rfl, ho⟩
   ·have b0 := ho.2.cell B0.out
    have HO := Lh ho
    have hc := Lh (HR.out _ ho.2)
    clear ho
    go_wp2_with (at_builtin; go_must (refine wpList_cat_ints rfl _ _ rfl _ [] L rfl HO.out b o n c rfl HN.out.1 hc.out (by have := HN.out; simp; omega) ?_); intro v2 w2 hown2 _; have H2 := Lh hown2; clear hown2)
    go_roundw
    case rel => exact .inr (.inl ⟨rfl, by simpa using H2.out⟩)
    case measure => simp [intOf]
   ·have b1 := ho.2.cell B1.out
    have HO := Lh ho
    have hc := Lh (HR'.out _ ho.2)
    clear ho
    go_wp2_with (at_builtin; go_must (refine wpList_cat_ints rfl _ _ rfl _ L M rfl HO.out b' o' n' c' rfl HN.out.2.1 hc.out (by have := HN.out; omega) ?_); intro v2 w2 hown2 _; have H2 := Lh hown2; clear hown2)
    go_roundw
    case rel => exact .inr (.inr ⟨rfl, H2.out⟩)
    case measure => simp [intOf]
   have HO := Lh ho
   clear ho
   go_wp2_with fail
   go_ret
   exact owns_N3 HO.out.1 (by have := HN.out; simp; omega) HO.out.2
end Go.Proofs.YtehdemcfeoiecaaGreatDoor
namespace Go.Firn
open Go.RowKit Go.Firn.Tb Go.Proofs.YtehdemcfeoiecaaGreatDoor
def RdP (w : World) (a : Option Addr) (n c : Nat) (L : SL) : Prop := n = L.length ∧ n ≤ c ∧ c ≤ 9223372036854775807 ∧ (a = none → c = 0) ∧ RdS w a n (sx L) (sy L)
theorem RdP.gr {w w' : World} {a : Option Addr} {n c : Nat} {L : SL} (h : RdP w a n c L) (g : Gr w w') : RdP w' a n c L := ⟨h.1, h.2.1, h.2.2.1, h.2.2.2.1, h.2.2.2.2.gr g⟩
def RdW (w : World) (a : Option Addr) (n c : Nat) (T : Tbl SL) : Prop := n = T.length ∧ n ≤ c ∧ c ≤ 9223372036854775807 ∧ (a = none → c = 0) ∧ (n = 0 ∨ ∃ b o, a = some ⟨b, o, none⟩ ∧ ∀ i r, T[i]? = some r → ∃ a1 n1 c1 a2 n2 c2, w.cell? ⟨b, o + i * 2, none⟩ = some (.slice a1 n1 c1) ∧ w.cell? ⟨b, o + i * 2 + 1, none⟩ = some (.slice a2 n2 c2) ∧ Rd3 w a1 n1 c1 r.1 ∧ RdP w a2 n2 c2 r.2)
theorem RdW.gr {w w' : World} {a : Option Addr} {n c : Nat} {T : Tbl SL} (h : RdW w a n c T) (g : Gr w w') : RdW w' a n c T := by
 obtain ⟨h1, h2, h3, h4, h5⟩ := h
 refine ⟨h1, h2, h3, h4, ?_⟩
 rcases h5 with h5 | ⟨b, o, ha, hc⟩
 ·exact .inl h5
 refine .inr ⟨b, o, ha, fun i r hr => ?_⟩
 obtain ⟨a1, n1, c1, a2, n2, c2, k1, k2, k3, k4⟩ := hc i r hr
 exact ⟨a1, n1, c1, a2, n2, c2, g.cell k1, g.cell k2, k3.gr g, k4.gr g⟩
theorem RdW.at {w : World} {a : Option Addr} {n c : Nat} {T : Tbl SL} (h : RdW w a n c T) {k : Nat} (hk : k < n) : ∃ b o r a1 n1 c1 a2 n2 c2, a = some ⟨b, o, none⟩ ∧ T[k]? = some r ∧ w.cell? ⟨b, o + k * 2, none⟩ = some (.slice a1 n1 c1) ∧ w.cell? ⟨b, o + k * 2 + 1, none⟩ = some (.slice a2 n2 c2) ∧ Rd3 w a1 n1 c1 r.1 ∧ RdP w a2 n2 c2 r.2 := by
 obtain ⟨h1, h2, h3, h4, h5⟩ := h
 rcases h5 with h5 | ⟨b, o, ha, hc⟩
 ·omega
 have hr : T[k]? = some (T[k]'(by omega)) := List.getElem?_eq_getElem (by omega)
 obtain ⟨a1, n1, c1, a2, n2, c2, k1, k2, k3, k4⟩ := hc k _ hr
 exact ⟨b, o, _, a1, n1, c1, a2, n2, c2, ha, hr, k1, k2, k3, k4⟩
def RdWs (w : World) (a : Option Addr) (n c : Nat) (Ts : List (Int × Tbl SL)) : Prop := n = Ts.length ∧ n ≤ c ∧ c ≤ 9223372036854775807 ∧ (a = none → c = 0) ∧ (n = 0 ∨ ∃ b o, a = some ⟨b, o, none⟩ ∧ ∀ i r, Ts[i]? = some r → ∃ a1 n1 c1, w.cell? ⟨b, o + i * 2, none⟩ = some (.int .i64 r.1) ∧ w.cell? ⟨b, o + i * 2 + 1, none⟩ = some (.slice a1 n1 c1) ∧ RdW w a1 n1 c1 r.2)
theorem RdWs.gr {w w' : World} {a : Option Addr} {n c : Nat} {Ts : List (Int × Tbl SL)} (h : RdWs w a n c Ts) (g : Gr w w') : RdWs w' a n c Ts := by
 obtain ⟨h1, h2, h3, h4, h5⟩ := h
 refine ⟨h1, h2, h3, h4, ?_⟩
 rcases h5 with h5 | ⟨b, o, ha, hc⟩
 ·exact .inl h5
 refine .inr ⟨b, o, ha, fun i r hr => ?_⟩
 obtain ⟨a1, n1, c1, k1, k2, k3⟩ := hc i r hr
 exact ⟨a1, n1, c1, g.cell k1, g.cell k2, k3.gr g⟩
theorem RdWs.at {w : World} {a : Option Addr} {n c : Nat} {Ts : List (Int × Tbl SL)} (h : RdWs w a n c Ts) {k : Nat} (hk : k < n) : ∃ b o r a1 n1 c1, a = some ⟨b, o, none⟩ ∧ Ts[k]? = some r ∧ w.cell? ⟨b, o + k * 2, none⟩ = some (.int .i64 r.1) ∧ w.cell? ⟨b, o + k * 2 + 1, none⟩ = some (.slice a1 n1 c1) ∧ RdW w a1 n1 c1 r.2 := by
 obtain ⟨h1, h2, h3, h4, h5⟩ := h
 rcases h5 with h5 | ⟨b, o, ha, hc⟩
 ·omega
 have hr : Ts[k]? = some (Ts[k]'(by omega)) := List.getElem?_eq_getElem (by omega)
 obtain ⟨a1, n1, c1, k1, k2, k3⟩ := hc k _ hr
 exact ⟨b, o, _, a1, n1, c1, ha, hr, k1, k2, k3⟩
theorem mapT_take {D E : Type} {ι : D → E} {T : Tbl D} {i : Nat} {r : List Int × D} (h : T[i]? = some r) : mapT ι (T.take (i + 1)) = mapT ι (T.take i) ++ [(r.1, ι r.2)] := by
 rw [List.take_add_one, h]
 simp [mapT]
end Go.Firn
namespace Go.Proofs.YtehdemcfeoiecaaGreatDoor
open Go.RowKit Go.Firn Go.Firn.Tb
def RetC (L M : List Int) (w : World) (e : Ending) (w' : World) : Prop := (∃ z : Int, e = .returned (.int .i64 z) ∧ (z < 0 ↔ L < M) ∧ (0 < z ↔ M < L)) ∧ Gr w w'
theorem RetC.lt {L M : List Int} {w w' : World} (h : L < M) (g : Gr w w') : RetC L M w (.returned (.int .i64 (-1))) w' := ⟨⟨-1, rfl, by simp [h], by simp [List.lt_asymm h]⟩, g⟩
theorem RetC.gt {L M : List Int} {w w' : World} (h : M < L) (g : Gr w w') : RetC L M w (.returned (.int .i64 1)) w' := ⟨⟨1, rfl, by simp [List.lt_asymm h], by simp [h]⟩, g⟩
theorem compare_any (a a' : Option Addr) (n n' c c' : Nat) (L M : List Int) (w : World) (h1 : Rd3 w a n c L) (h2 : Rd3 w a' n' c' M) : Calls Tryz.prog 92 #[.slice a n c, .slice a' n' c'] w (RetC L M w) := by
 have H1 := Lh h1
 have H2 := Lh h2
 clear h1 h2
 go_enter Tryz.func92, Tryz.ntmps92
 go_wp2_with fail
 go_loopw [5] (fun s wr => ∃ i : Nat, s = .int .i64 i ∧ Hid (Gr w wr) ∧ Hid (i ≤ n ∧ i ≤ n') ∧ Hid (∀ k, k < i → iv L k = iv M k)) (fun s _ => n - (intOf s).toNat)
 case atStart => exact ⟨0, rfl, Lh (Gr.refl w), Lh (by omega), Lh (fun k hk => by omega)⟩
 case round =>
  obtain ⟨i, rfl, HG, Hi, HE⟩ := hrel
  have hn := H1.out.1
  have hn' := H2.out.1
  have hi := Hi.out
  have hm := H1.out.2.1
  have hm2 := H1.out.2.2.1
  by_cases hlt : i < n
  ·have i1 : (i : Int) < (n : Int) := by omega
   obtain ⟨b, o, rfl, hc⟩ := (H1.out.2.2.2.2.gr HG.out).at hlt
   have z1 := hc i hlt
   by_cases hlt' : i < n'
   ·have i2 : (i : Int) < (n' : Int) := by omega
    obtain ⟨b', o', rfl, hc'⟩ := (H2.out.2.2.2.2.gr HG.out).at hlt'
    have z2 := hc' i hlt'
    have HX := Lh (show (iv L i < iv M i → L < M) ∧ (iv M i < iv L i → M < L) ∧ (¬ iv L i < iv M i → ¬ iv M i < iv L i → iv L i = iv M i) from ⟨fun h => lt_at HE.out (by omega) (by omega) h, fun h => lt_at (fun k hk => (HE.out k hk).symm) (by omega) (by omega) h, fun h k => by omega⟩)
    generalize hx : iv L i = x at *
    generalize hy : iv M i = y at *
    have HXY := Lh (And.intro hx hy)
    have HL := Lh (And.intro hlt hlt')
    have HM := Lh (And.intro hm hm2)
    clear hc hc' hx hy hn hn' hi hlt hlt' hm hm2
    by_cases h : x < y
    ·have hz := Lh (HX.out.1 h)
     have hd : decide (x < y) = true := decide_eq_true h
     clear HX
     go_wp2_with fail
     go_quiet (fail)
     go_wp2_with fail
     go_ret
     exact RetC.lt hz.out (HG.out.drewN _)
    by_cases k : y < x
    ·have hz := Lh (HX.out.2.1 k)
     clear HX
     go_wp2_with fail
     go_quiet (fail)
     go_wp2_with fail
     go_quiet (fail)
     go_wp2_with fail
     go_ret
     exact RetC.gt hz.out ((HG.out.drewN _).drewN _)
    have hz := Lh (HX.out.2.2 h k)
    clear HX
    go_wp2_with fail
    go_quiet (fail)
    go_wp2_with fail
    go_quiet (fail)
    go_wp2_with fail
    have hl := HL.out
    have hm := HM.out
    have e3 : wrap64 ((i : Int) + 1) = ((i + 1 : Nat) : Int) := by rw [IntWalk.wrap64_in _ (by omega)]; omega
    go_roundw
    case rel => exact ⟨i + 1, by first | (rw [e3]) | rfl | simp, Lh (HG.out.drewN _), Lh (by clear e3; omega), Lh (fun k hk => by
     rcases Nat.lt_succ_iff_lt_or_eq.1 hk with q | rfl
     ·exact HE.out k q
     rw [HXY.out.1, HXY.out.2]; exact hz.out)⟩
    case measure => first | (rw [e3]; clear e3; simp only [intOf]; omega) | (clear e3; simp only [intOf]; omega)
   have i3 : ¬ (i : Int) < (n' : Int) := by omega
   have hz := Lh (show M < L from lt_pre (fun k hk => HE.out k (by omega)) (by omega))
   obtain ⟨d, hd⟩ : ∃ d, d = n - n' := ⟨_, rfl⟩
   have HD := Lh (show (0 : Int) < (d : Int) by omega)
   have e4 : IntKind.i64.wrap ((n : Int) - (n' : Int)) = (d : Int) := by rw [IntWalk.i64_in _ (by have := H1.out.2.2.1; have := H1.out.2.1; have := H2.out.2.2.1; have := H2.out.2.1; omega)]; omega
   clear hc hn hn' hi hlt' hm hm2 hd
   go_wp2_with fail
   go_ret
   exact ⟨⟨d, rfl, by have := HD.out; simp [List.lt_asymm hz.out], by have := HD.out; simp only [this, hz.out]⟩, HG.out⟩
  have i1 : ¬ (i : Int) < (n : Int) := by omega
  have b2 := H2.out.2.2.1
  have b3 := H2.out.2.1
  by_cases hq : n < n'
  ·have hz := Lh (show L < M from lt_pre (fun k hk => (HE.out k (by omega)).symm) (by omega))
   obtain ⟨d, hd⟩ : ∃ d : Int, d = (n : Int) - (n' : Int) := ⟨_, rfl⟩
   have HD := Lh (show d < 0 by omega)
   have e4 : IntKind.i64.wrap ((n : Int) - (n' : Int)) = d := by rw [IntWalk.i64_in _ (by omega)]; omega
   clear hn hn' hi hlt hm hm2 b2 b3 hd hq
   go_wp2_with fail
   go_ret
   exact ⟨⟨d, rfl, by have := HD.out; simp only [this, hz.out], by have := HD.out; constructor; exact (fun k => absurd k (by omega)); exact fun k => absurd k (List.lt_asymm hz.out)⟩, HG.out⟩
  obtain rfl : n = n' := by omega
  have e4 : IntKind.i64.wrap ((n : Int) - (n : Int)) = 0 := by rw [Int.sub_self]; rfl
  obtain rfl : L = M := iv_ext (by omega) (fun k hk => HE.out k (by omega))
  clear hn hn' hi hlt hm hm2 b2 b3 hq
  go_wp2_with fail
  go_ret
  exact ⟨⟨0, rfl, by simp, by simp⟩, HG.out⟩
def stp : Wd → Int × Int × Int
 | .put n => (0, n, 0)
 | .orr => (1, 0, 0)
 | .byy => (2, 0, 0)
 | .drop n => (3, n, 0)
 | .pick n m => (4, n, m)
 | .same n m => (5, n, m)
def colOk (s : Wd) (n : Nat) : Prop := match s with
 | .drop k => k < n
 | .pick k _ => k < n
 | .same k m => k < n ∧ m < n
 | _ => True
theorem keeps_any (s : Wd) (a : Option Addr) (n c : Nat) (L : List Int) (w : World) (h1 : Rd3 w a n c L) (hc : colOk s n) : Calls Tryz.prog 102 #[.agg #[.int .i64 (stp s).1, .int .i64 (stp s).2.1, .int .i64 (stp s).2.2], .slice a n c] w (RetB (keepsW s L) w) := by
 have G := Lh ((Gr.refl w).alloc (.cells #[.int .i64 (stp s).1, .int .i64 (stp s).2.1, .int .i64 (stp s).2.2] 103))
 have z0 : (w.alloc (.cells #[.int .i64 (stp s).1, .int .i64 (stp s).2.1, .int .i64 (stp s).2.2] 103)).cell? ⟨w.heap.size, 0, none⟩ = some (.int .i64 (stp s).1) := by simp
 have z1 : (w.alloc (.cells #[.int .i64 (stp s).1, .int .i64 (stp s).2.1, .int .i64 (stp s).2.2] 103)).cell? ⟨w.heap.size, 1, none⟩ = some (.int .i64 (stp s).2.1) := by simp
 have z2 : (w.alloc (.cells #[.int .i64 (stp s).1, .int .i64 (stp s).2.1, .int .i64 (stp s).2.2] 103)).cell? ⟨w.heap.size, 2, none⟩ = some (.int .i64 (stp s).2.2) := by simp
 have H1 := Lh (h1.gr G.out)
 have HN := Lh (h1.1)
 clear h1
 cases s with
 | put k =>
  simp only [stp] at z0 z1 z2 G H1 ⊢
  clear z1 z2
  go_enter Tryz.func102, Tryz.ntmps102
  go_wp2_with fail
  go_ret
  exact ⟨rfl, G.out⟩
 | orr =>
  simp only [stp] at z0 z1 z2 G H1 ⊢
  clear z1 z2
  go_enter Tryz.func102, Tryz.ntmps102
  go_wp2_with fail
  go_ret
  exact ⟨rfl, G.out⟩
 | byy =>
  simp only [stp] at z0 z1 z2 G H1 ⊢
  clear z1 z2
  go_enter Tryz.func102, Tryz.ntmps102
  go_wp2_with fail
  go_ret
  exact ⟨rfl, G.out⟩
 | drop k =>
  simp only [stp] at z0 z1 z2 G H1 ⊢
  clear z1 z2
  go_enter Tryz.func102, Tryz.ntmps102
  go_wp2_with fail
  go_ret
  exact ⟨rfl, G.out⟩
 | pick k m =>
  simp only [stp] at z0 z1 z2 G H1 ⊢
  have i1 : (k : Int) < (n : Int) := by have : k < n := hc; omega
  obtain ⟨b, o, rfl, hcc⟩ := H1.out.2.2.2.2.at (show k < n from hc)
  have y1 := hcc k hc
  have e : keepsW (.pick k m) L = decide (iv L k = m) := rfl
  rw [e]
  generalize iv L k = x at *
  clear hcc hc e
  go_enter Tryz.func102, Tryz.ntmps102
  go_wp2_with fail
  go_quiet (fail)
  go_wp2_with fail
  go_ret
  exact ⟨by simp [Bool.beq_eq_decide_eq], G.out.drewN _⟩
 | same k m =>
  simp only [stp] at z0 z1 z2 G H1 ⊢
  have i1 : (k : Int) < (n : Int) := by have : k < n := hc.1; omega
  have i2 : (m : Int) < (n : Int) := by have : m < n := hc.2; omega
  obtain ⟨b, o, rfl, hcc⟩ := H1.out.2.2.2.2.at (show k < n from hc.1)
  have y1 := hcc k hc.1
  have y2 := hcc m hc.2
  have e : keepsW (.same k m) L = decide (iv L k = iv L m) := rfl
  rw [e]
  generalize iv L k = x at *
  generalize iv L m = y at *
  clear hcc hc e
  go_enter Tryz.func102, Tryz.ntmps102
  go_wp2_with fail
  go_quiet (fail)
  go_wp2_with fail
  go_ret
  exact ⟨by simp [Bool.beq_eq_decide_eq], G.out.drewN _⟩
abbrev Tri := Int × Int × Int
def pk3 (L : List Tri) : List Value := L.flatMap fun x => [.int .i64 x.1, .int .i64 x.2.1, .int .i64 x.2.2]
theorem pk3_append (a b : List Tri) : pk3 (a ++ b) = pk3 a ++ pk3 b := by simp [pk3]
theorem pk3_at : ∀ (L : List Tri) (i : Nat) (x : Tri), L[i]? = some x → (pk3 L)[i * 3]? = some (.int .i64 x.1) ∧ (pk3 L)[i * 3 + 1]? = some (.int .i64 x.2.1) ∧ (pk3 L)[i * 3 + 2]? = some (.int .i64 x.2.2)
 | [], i, x, h => by simp at h
 | m :: ms, i, x, h => by
  have e : pk3 (m :: ms) = .int .i64 m.1 :: .int .i64 m.2.1 :: .int .i64 m.2.2 :: pk3 ms := rfl
  cases i with
  | zero => simp at h; subst h; rw [e]; exact ⟨rfl, rfl, rfl⟩
  | succ i =>
   have := pk3_at ms i x (by simpa using h)
   rw [e, show (i + 1) * 3 = i * 3 + 1 + 1 + 1 by omega]
   simpa using this
def Rd33 (w : World) (a : Option Addr) (n c : Nat) (L : List Tri) : Prop := n = L.length ∧ n ≤ c ∧ c ≤ 9223372036854775807 ∧ (a = none → c = 0) ∧ (n = 0 ∨ ∃ b, a = some ⟨b, 0, none⟩ ∧ ∀ i x, L[i]? = some x → w.cell? ⟨b, i * 3, none⟩ = some (.int .i64 x.1) ∧ w.cell? ⟨b, i * 3 + 1, none⟩ = some (.int .i64 x.2.1) ∧ w.cell? ⟨b, i * 3 + 2, none⟩ = some (.int .i64 x.2.2))
theorem Rd33.gr {w w' : World} {a : Option Addr} {n c : Nat} {L : List Tri} (h : Rd33 w a n c L) (g : Gr w w') : Rd33 w' a n c L := by
 obtain ⟨h1, h2, h3, h4, h5⟩ := h
 refine ⟨h1, h2, h3, h4, ?_⟩
 rcases h5 with h5 | ⟨b, e, hc⟩
 ·exact .inl h5
 exact .inr ⟨b, e, fun i x hi => ⟨g.cell (hc i x hi).1, g.cell (hc i x hi).2.1, g.cell (hc i x hi).2.2⟩⟩
theorem Rd33.at {w : World} {a : Option Addr} {n c : Nat} {L : List Tri} (h : Rd33 w a n c L) {k : Nat} (hk : k < n) : ∃ b x, a = some ⟨b, 0, none⟩ ∧ L[k]? = some x ∧ w.cell? ⟨b, k * 3, none⟩ = some (.int .i64 x.1) ∧ w.cell? ⟨b, k * 3 + 1, none⟩ = some (.int .i64 x.2.1) ∧ w.cell? ⟨b, k * 3 + 2, none⟩ = some (.int .i64 x.2.2) := by
 obtain ⟨h1, h2, h3, h4, h5⟩ := h
 rcases h5 with h5 | ⟨b, e, hc⟩
 ·omega
 have hx : L[k]? = some (L[k]'(by omega)) := List.getElem?_eq_getElem (by omega)
 exact ⟨b, _, e, hx, hc k _ hx⟩
def Info33 (e : TypeId) : Prop := ∃ i, Tryz.prog.info? e = some i ∧ i.zero = some (.agg #[.int .i64 0, .int .i64 0, .int .i64 0]) ∧ i.size = 3 ∧ i.bytes = 24
theorem infoSt : (Tryz.prog.info? 103).map (fun i => (i.zero, i.size, i.bytes)) = some (some (.agg #[.int .i64 0, .int .i64 0, .int .i64 0]), 3, 24) := by kernel_rfl
theorem info_step : Info33 103 := by
 have h := infoSt
 unfold Info33
 cases hi : Tryz.prog.info? 103 with
 | none => rw [hi] at h; cases h
 | some i => rw [hi] at h; simp at h; exact ⟨i, rfl, h.1, h.2.1, h.2.2⟩
theorem OwnL.take {w0 w : World} {a : Option Addr} {n c : Nat} {L : List Int} (h : OwnL w0 w (.slice a n c) L) {k : Nat} (hk : k ≤ L.length) (h0 : a = none → k = 0) : OwnL w0 w (.slice a k c) (L.take k) := by
 obtain ⟨⟨hl, hv⟩, g⟩ := h
 refine ⟨⟨?_, ?_⟩, g⟩
 ·rw [List.length_map, List.length_take]; omega
 rcases hv with ⟨e, hz⟩ | ⟨b, cap, cur, e, hb, hg, hnc, hcm, hcs, htake⟩
 ·cases e
  have : k = 0 := h0 rfl
  subst this
  exact .inl ⟨rfl, by simp⟩
 cases e
 refine .inr ⟨b, c, cur, ?_, hb, hg, ?_, hcm, hcs, ?_⟩
 ·rw [List.length_take, Nat.min_eq_left hk]
 ·rw [List.length_take]; omega
 rw [Nat.mul_one] at htake ⊢
 rw [List.length_take, Nat.min_eq_left hk, List.map_take, ← htake, List.take_take, Nat.min_eq_left (by simpa using hk)]
end Go.Proofs.YtehdemcfeoiecaaGreatDoor
