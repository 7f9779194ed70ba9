/- The plain law of Apart: where two clocks differ most first is an end or a mark; and of Same. -/
import Derived.Test.YtdlbgelidcfmiaaGreatDoorP10
import Derived.Test.YtdlbgelidcfmiaaGreatDoorW27
namespace Go.Proofs.YtdlbgelidcfmiaaGreatDoor

section
variable (p q : Int → Int)
/-- The ratio at y is less than that at z. -/
def ltR (y z : Int) : Prop := p y * q z < p z * q y
/-- The first greatest one. -/
def IsMx (S : Int → Prop) (a : Int) : Prop := S a ∧ (∀ y, S y → ¬ ltR p q a y) ∧ ∀ y, S y → y < a → ltR p q y a
end
variable {p q : Int → Int}
theorem ltR.irrefl (y : Int) : ¬ ltR p q y y := fun h => by unfold ltR at h; omega
theorem ltR.lt_of_le_of_lt (hq : ∀ y, 0 < q y) {x y z : Int} (h1 : ¬ ltR p q y x) (h2 : ltR p q y z) : ltR p q x z := by
  unfold ltR at *
  have a : p x * q y * q z ≤ p y * q x * q z := Int.mul_le_mul_of_nonneg_right (by omega) (Int.le_of_lt (hq z))
  have b : p y * q z * q x < p z * q y * q x := Int.mul_lt_mul_of_pos_right h2 (hq x)
  have e1 : p x * q y * q z = p x * q z * q y := by ac_rfl
  have e2 : p y * q x * q z = p y * q z * q x := by ac_rfl
  have e3 : p z * q y * q x = p z * q x * q y := by ac_rfl
  exact Int.lt_of_mul_lt_mul_right (a := q y) (by omega) (Int.le_of_lt (hq y))
theorem ltR.asymm (_hq : ∀ y, 0 < q y) {x y : Int} (h : ltR p q x y) : ¬ ltR p q y x := fun k => by unfold ltR at *; omega
theorem IsMx.unique {S : Int → Prop} {a b : Int} (h : IsMx p q S a) (k : IsMx p q S b) : a = b := by
  rcases Int.lt_trichotomy a b with x | x | x
  · exact absurd (k.2.2 a h.1 x) (h.2.1 b k.1)
  · exact x
  · exact absurd (h.2.2 b k.1 x) (k.2.1 a h.1)
theorem IsMx.sub {S R : Int → Prop} {a : Int} (h : IsMx p q S a) (hs : ∀ y, R y → S y) (ha : R a) : IsMx p q R a := ⟨ha, fun y hy => h.2.1 y (hs y hy), fun y hy => h.2.2 y (hs y hy)⟩
theorem IsMx.congr {S R : Int → Prop} {a : Int} (h : IsMx p q S a) (hs : ∀ y, R y ↔ S y) : IsMx p q R a := h.sub (fun y hy => (hs y).1 hy) ((hs a).2 h.1)

/-- The program's state: the first k of a sorted list were looked at. -/
def PrM (p q : Int → Int) (F : Int) (S : Nat → Int) (k : Nat) (a : Int) : Prop :=
  (a = F ∨ ∃ j, j < k ∧ S j = a) ∧ ¬ ltR p q a F ∧ (F < a → ltR p q F a) ∧ ∀ i, i < k → ¬ ltR p q a (S i) ∧ (S i < a → ltR p q (S i) a)
theorem PrM.start (F : Int) (S : Nat → Int) : PrM p q F S 0 F := ⟨.inl rfl, ltR.irrefl F, fun h => by omega, fun i hi => by omega⟩
theorem PrM.yes (hq : ∀ y, 0 < q y) {F : Int} {S : Nat → Int} {k : Nat} {a : Int} (h : PrM p q F S k a) (t : ltR p q a (S k)) : PrM p q F S (k + 1) (S k) := by
  obtain ⟨_, h2, _, h4⟩ := h
  have f := ltR.lt_of_le_of_lt hq h2 t
  refine ⟨.inr ⟨k, Nat.lt_succ_self k, rfl⟩, ltR.asymm hq f, fun _ => f, fun i hi => ?_⟩
  by_cases e : i = k
  · subst e; exact ⟨ltR.irrefl _, fun x => by omega⟩
  · have g := ltR.lt_of_le_of_lt hq (h4 i (by omega)).1 t
    exact ⟨ltR.asymm hq g, fun _ => g⟩
theorem PrM.no {F : Int} {S : Nat → Int} {k : Nat} {a : Int} (h : PrM p q F S k a) (t : ¬ ltR p q a (S k)) (hF : F ≤ S k) (hS : ∀ j, j < k → S j ≤ S k) : PrM p q F S (k + 1) a := by
  obtain ⟨h1, h2, h3, h4⟩ := h
  refine ⟨h1.imp id fun ⟨j, hj, e⟩ => ⟨j, by omega, e⟩, h2, h3, fun i hi => ?_⟩
  by_cases e : i = k
  · subst e
    refine ⟨t, fun x => ?_⟩
    rcases h1 with e | ⟨j, hj, e⟩
    · omega
    · have := hS j hj; omega
  · exact h4 i (by omega)
theorem PrM.fin {F : Int} {S : Nat → Int} {k : Nat} {a : Int} (h : PrM p q F S k a) {W : Int → Prop} (hF : W F) (hW : ∀ y, W y → y = F ∨ ∃ i, i < k ∧ S i = y) (hS : ∀ i, i < k → W (S i)) : IsMx p q W a := by
  obtain ⟨h1, h2, h3, h4⟩ := h
  refine ⟨?_, fun y hy => ?_, fun y hy => ?_⟩
  · rcases h1 with e | ⟨j, hj, e⟩
    · rw [e]; exact hF
    · rw [← e]; exact hS j hj
  · rcases hW y hy with e | ⟨i, hi, e⟩
    · rw [e]; exact h2
    · rw [← e]; exact (h4 i hi).1
  · rcases hW y hy with e | ⟨i, hi, e⟩
    · rw [e]; exact h3
    · rw [← e]; exact (h4 i hi).2

/-- The reference's state: all below x were looked at. -/
def RfM (p q : Int → Int) (F x a : Int) : Prop := IsMx p q (fun y => F ≤ y ∧ y < x) a
theorem RfM.start (F : Int) : RfM p q F (F + 1) F := ⟨⟨by omega, by omega⟩, fun y hy => by
  obtain rfl : y = F := by omega
  exact ltR.irrefl _, fun y hy h => by omega⟩
theorem RfM.yes (hq : ∀ y, 0 < q y) {F x a : Int} (h : RfM p q F x a) (hx : F ≤ x) (t : ltR p q a x) : RfM p q F (x + 1) x := by
  obtain ⟨_, h2, _⟩ := h
  have key : ∀ y, F ≤ y → y < x → ltR p q y x := fun y h1 h3 => ltR.lt_of_le_of_lt hq (h2 y ⟨h1, h3⟩) t
  refine ⟨⟨hx, by omega⟩, fun y hy => ?_, fun y hy h => key y hy.1 h⟩
  by_cases e : y = x
  · subst e; exact ltR.irrefl _
  · exact ltR.asymm hq (key y hy.1 (by omega))
theorem RfM.no {F x a : Int} (h : RfM p q F x a) (t : ¬ ltR p q a x) : RfM p q F (x + 1) a := by
  obtain ⟨h1, h2, h3⟩ := h
  refine ⟨⟨h1.1, by omega⟩, fun y hy => ?_, fun y hy k => ?_⟩
  · by_cases e : y = x
    · subst e; exact t
    · exact h2 y ⟨hy.1, by omega⟩
  · exact h3 y ⟨hy.1, by omega⟩ k
theorem IsMx.exists (hq : ∀ y, 0 < q y) (F : Int) : ∀ k : Nat, ∃ a, RfM p q F (F + k + 1) a
  | 0 => ⟨F, by rw [show F + ((0 : Nat) : Int) + 1 = F + 1 by omega]; exact RfM.start F⟩
  | k + 1 => by
    obtain ⟨a, h⟩ := IsMx.exists hq F k
    rw [show F + ((k + 1 : Nat) : Int) + 1 = (F + (k : Int) + 1) + 1 by omega]
    by_cases t : ltR p q a (F + (k : Int) + 1)
    · exact ⟨_, h.yes hq (by omega) t⟩
    · exact ⟨a, h.no t⟩

/-! ## Two clocks -/

/-- x is no mark at which the clock turns. -/
def Smooth (n : Nat) (L : Nat → Int) (x : Int) : Prop := ∀ j, 0 < j → j ≤ n - 2 → L j ≠ x
theorem Smooth.ix {n : Nat} {L T : Nat → Int} {x : Int} (hv : vK n L T = true) (h : Smooth n L x) : ix (pA L x) n = ix (pA L (x - 1)) n := by
  have := next_line (x - 1) hv
  rw [show x - 1 + 1 = x by omega] at this
  rcases this with e | ⟨e, f⟩
  · exact e
  · have hi := ix_le (pA L x) n
    exact absurd f (h _ (by omega) (by omega))
/-- The time at y by the line i. -/
theorem AN_line {n : Nat} {L T : Nat → Int} {y : Int} (hv : vK n L T = true) {i : Nat} (_hi : 0 < aD L i) (h : aN L T (ix (pA L y) n) y * aD L i = aN L T i y * aD L (ix (pA L y) n)) : AN n L T y * aD L i = aN L T i y * AD n L T y := by
  have d := (aD_bd hv (pA L y)).1
  have r := red_mul (aN L T (ix (pA L y) n) y) (aD L (ix (pA L y) n))
  unfold AN AD
  generalize aN L T (ix (pA L y) n) y = a at *
  generalize aD L (ix (pA L y) n) = dd at *
  generalize rN a dd = N at *
  generalize rD a dd = D at *
  refine Int.eq_of_mul_eq_mul_right (a := dd) (by omega) ?_
  calc N * aD L i * dd = (N * dd) * aD L i := by ac_rfl
    _ = (a * D) * aD L i := by rw [r]
    _ = (a * aD L i) * D := by ac_rfl
    _ = (aN L T i y * dd) * D := by rw [h]
    _ = aN L T i y * D * dd := by ac_rfl
theorem abs_max (x : Int) : max x (-x) = (x.natAbs : Int) := by omega
theorem mul_abs (x : Int) {e : Int} (he : 0 < e) : ((x * e).natAbs : Int) = (x.natAbs : Int) * e := by
  rw [Int.natAbs_mul, Int.natCast_mul]
  congr 1
  omega
theorem apE_pos {n n' : Nat} {L T L' T' : Nat → Int} (hv : vK n L T = true) (hv' : vK n' L' T' = true) (x : Int) : 0 < apE n L T n' L' T' x := Int.mul_pos (by have := (AD_bd x hv).1; omega) (by have := (AD_bd x hv').1; omega)
theorem apD_pos {n n' : Nat} {L T L' T' : Nat → Int} (hv : vK n L T = true) (hv' : vK n' L' T' = true) (x : Int) : 0 < apD n L T n' L' T' x := rD_pos _ (apE_pos hv hv' x)
theorem apN_nonneg {n n' : Nat} {L T L' T' : Nat → Int} (x : Int) : 0 ≤ apN n L T n' L' T' x := by
  unfold apN
  exact rN_nonneg (by omega)
/-- How much they differ at y, by the lines i and i'. -/
theorem ap_line {n n' : Nat} {L T L' T' : Nat → Int} {y : Int} (hv : vK n L T = true) (hv' : vK n' L' T' = true) {d d' a a' : Int} (hd : 0 < d) (hd' : 0 < d') (h : AN n L T y * d = a * AD n L T y) (h' : AN n' L' T' y * d' = a' * AD n' L' T' y) :
    apN n L T n' L' T' y * (d * d') = ((a * d' - a' * d).natAbs : Int) * apD n L T n' L' T' y := by
  have e := apE_pos hv hv' y
  have r := red_mul (max (apM n L T n' L' T' y) (-apM n L T n' L' T' y)) (apE n L T n' L' T' y)
  have m : apM n L T n' L' T' y * (d * d') = (a * d' - a' * d) * apE n L T n' L' T' y := by
    unfold apM apE
    rw [Int.sub_mul, Int.sub_mul]
    have x1 : AN n L T y * AD n' L' T' y * (d * d') = a * d' * (AD n L T y * AD n' L' T' y) := by
      calc AN n L T y * AD n' L' T' y * (d * d') = (AN n L T y * d) * (AD n' L' T' y * d') := by ac_rfl
        _ = (a * AD n L T y) * (AD n' L' T' y * d') := by rw [h]
        _ = a * d' * (AD n L T y * AD n' L' T' y) := by ac_rfl
    have x2 : AN n' L' T' y * AD n L T y * (d * d') = a' * d * (AD n L T y * AD n' L' T' y) := by
      calc AN n' L' T' y * AD n L T y * (d * d') = (AN n' L' T' y * d') * (AD n L T y * d) := by ac_rfl
        _ = (a' * AD n' L' T' y) * (AD n L T y * d) := by rw [h']
        _ = a' * d * (AD n L T y * AD n' L' T' y) := by ac_rfl
    rw [x1, x2]
  have ma : ((apM n L T n' L' T' y).natAbs : Int) * (d * d') = ((a * d' - a' * d).natAbs : Int) * apE n L T n' L' T' y := by
    rw [← mul_abs _ (Int.mul_pos hd hd'), ← mul_abs _ e, m]
  unfold apN apD
  rw [abs_max] at r ⊢
  generalize apE n L T n' L' T' y = E at *
  generalize ((apM n L T n' L' T' y).natAbs : Int) = M at *
  generalize rN M E = N at *
  generalize rD M E = D at *
  generalize ((a * d' - a' * d).natAbs : Int) = m' at *
  refine Int.eq_of_mul_eq_mul_right (a := E) (by omega) ?_
  calc N * (d * d') * E = (N * E) * (d * d') := by ac_rfl
    _ = (M * D) * (d * d') := by rw [r]
    _ = (M * (d * d')) * D := by ac_rfl
    _ = (m' * E) * D := by rw [ma]
    _ = m' * D * E := by ac_rfl

/-- NO FIRST GREATEST ONE WHERE BOTH GO STRAIGHT. -/
theorem no_peak {n n' : Nat} {L T L' T' : Nat → Int} (hv : vK n L T = true) (hv' : vK n' L' T' = true) {x : Int} (hs : Smooth n L x) (hs' : Smooth n' L' x)
    (h1 : ltR (apN n L T n' L' T') (apD n L T n' L' T') (x - 1) x) (h2 : ¬ ltR (apN n L T n' L' T') (apD n L T n' L' T') x (x + 1)) : False := by
  have ei := hs.ix hv
  have ei' := hs'.ix hv'
  have d1 := (aD_bd hv (pA L (x - 1))).1
  have d1' := (aD_bd hv' (pA L' (x - 1))).1
  have s := same_time x hv
  have s' := same_time x hv'
  rw [ei] at s
  rw [ei'] at s'
  have A0 := AN_line (y := x - 1) hv d1 rfl
  have A0' := AN_line (y := x - 1) hv' d1' rfl
  have A1 := AN_line (y := x) hv d1 (by rw [ei])
  have A1' := AN_line (y := x) hv' d1' (by rw [ei'])
  have A2 := AN_line (y := x + 1) hv d1 s
  have A2' := AN_line (y := x + 1) hv' d1' s'
  have B0 := ap_line hv hv' d1 d1' A0 A0'
  have B1 := ap_line hv hv' d1 d1' A1 A1'
  have B2 := ap_line hv hv' d1 d1' A2 A2'
  have q0 := apD_pos hv hv' (x - 1)
  have q1 := apD_pos hv hv' x
  have q2 := apD_pos hv hv' (x + 1)
  have lin : (aN L T (ix (pA L (x - 1)) n) (x - 1) * aD L' (ix (pA L' (x - 1)) n') - aN L' T' (ix (pA L' (x - 1)) n') (x - 1) * aD L (ix (pA L (x - 1)) n)) + (aN L T (ix (pA L (x - 1)) n) (x + 1) * aD L' (ix (pA L' (x - 1)) n') - aN L' T' (ix (pA L' (x - 1)) n') (x + 1) * aD L (ix (pA L (x - 1)) n)) = 2 * (aN L T (ix (pA L (x - 1)) n) x * aD L' (ix (pA L' (x - 1)) n') - aN L' T' (ix (pA L' (x - 1)) n') x * aD L (ix (pA L (x - 1)) n)) := by
    generalize ix (pA L (x - 1)) n = i
    generalize ix (pA L' (x - 1)) n' = i'
    have key : ∀ (L T : Nat → Int) (i : Nat) (d : Int), aN L T i (x - 1) * d + aN L T i (x + 1) * d = 2 * (aN L T i x * d) := fun L T i d => by
      have : aN L T i (x - 1) + aN L T i (x + 1) = 2 * aN L T i x := by
        unfold aN
        rw [show x - 1 - L i = (x - L i) - 1 by omega, show x + 1 - L i = (x - L i) + 1 by omega, Int.sub_mul, Int.add_mul]
        omega
      rw [← Int.add_mul, this, Int.mul_assoc]
    have k1 := key L T i (aD L' i')
    have k2 := key L' T' i' (aD L i)
    omega
  unfold ltR at h1 h2
  have P := Int.mul_pos d1 d1'
  generalize aN L T (ix (pA L (x - 1)) n) (x - 1) * aD L' (ix (pA L' (x - 1)) n') - aN L' T' (ix (pA L' (x - 1)) n') (x - 1) * aD L (ix (pA L (x - 1)) n) = m0 at *
  generalize aN L T (ix (pA L (x - 1)) n) x * aD L' (ix (pA L' (x - 1)) n') - aN L' T' (ix (pA L' (x - 1)) n') x * aD L (ix (pA L (x - 1)) n) = m1 at *
  generalize aN L T (ix (pA L (x - 1)) n) (x + 1) * aD L' (ix (pA L' (x - 1)) n') - aN L' T' (ix (pA L' (x - 1)) n') (x + 1) * aD L (ix (pA L (x - 1)) n) = m2 at *
  generalize aD L (ix (pA L (x - 1)) n) * aD L' (ix (pA L' (x - 1)) n') = dd at *
  generalize apN n L T n' L' T' (x - 1) = p0 at *
  generalize apN n L T n' L' T' x = p1 at *
  generalize apN n L T n' L' T' (x + 1) = p2 at *
  generalize apD n L T n' L' T' (x - 1) = r0 at *
  generalize apD n L T n' L' T' x = r1 at *
  generalize apD n L T n' L' T' (x + 1) = r2 at *
  have l0 : (m0.natAbs : Int) < m1.natAbs := by
    have e1 : p0 * r1 * dd = (m0.natAbs : Int) * (r0 * r1) := by
      calc p0 * r1 * dd = p0 * dd * r1 := by ac_rfl
        _ = (m0.natAbs : Int) * r0 * r1 := by rw [B0]
        _ = _ := by ac_rfl
    have e2 : p1 * r0 * dd = (m1.natAbs : Int) * (r0 * r1) := by
      calc p1 * r0 * dd = p1 * dd * r0 := by ac_rfl
        _ = (m1.natAbs : Int) * r1 * r0 := by rw [B1]
        _ = _ := by ac_rfl
    have := Int.mul_lt_mul_of_pos_right h1 P
    rw [e1, e2] at this
    exact Int.lt_of_mul_lt_mul_right this (Int.le_of_lt (Int.mul_pos q0 q1))
  have l2 : (m2.natAbs : Int) ≤ m1.natAbs := by
    have e1 : p2 * r1 * dd = (m2.natAbs : Int) * (r1 * r2) := by
      calc p2 * r1 * dd = p2 * dd * r1 := by ac_rfl
        _ = (m2.natAbs : Int) * r2 * r1 := by rw [B2]
        _ = _ := by ac_rfl
    have e2 : p1 * r2 * dd = (m1.natAbs : Int) * (r1 * r2) := by
      calc p1 * r2 * dd = p1 * dd * r2 := by ac_rfl
        _ = (m1.natAbs : Int) * r1 * r2 := by rw [B1]
        _ = _ := by ac_rfl
    have := Int.mul_le_mul_of_nonneg_right (Int.not_lt.1 h2) (Int.le_of_lt P)
    rw [e1, e2] at this
    exact Int.le_of_mul_le_mul_right this (Int.mul_pos q1 q2)
  omega

end Go.Proofs.YtdlbgelidcfmiaaGreatDoor
