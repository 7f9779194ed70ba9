/- The plain law of Apart and Same, second part: the place, and where two clocks are the same. -/
import Derived.Test.YtdlbgelidcfmiaaW33
namespace Go.Proofs.Ytdlbgelidcfmiaa
open Go.RowKit Go.Firn

/-- Where both go straight, the difference goes straight too. -/
theorem straight3 {n n' : Nat} {L T L' T' : Nat → Int} (hv : vK n L T = true) (hv' : vK n' L' T' = true) {x : Int} (hs : Smooth n L x) (hs' : Smooth n' L' x) :
    ∃ m0 m1 m2 dd : Int, 0 < dd ∧ m0 + m2 = 2 * m1 ∧ apN n L T n' L' T' (x - 1) * dd = (m0.natAbs : Int) * apD n L T n' L' T' (x - 1) ∧ apN n L T n' L' T' x * dd = (m1.natAbs : Int) * apD n L T n' L' T' x ∧ apN n L T n' L' T' (x + 1) * dd = (m2.natAbs : Int) * apD n L T n' L' T' (x + 1) := by
  have ei := hs.ix hv
  have ei' := hs'.ix hv'
  have d1 := (aD_bd hv (pA L (x - 1))).1
  have d1' := (aD_bd hv' (pA L' (x - 1))).1
  have s := same_time x hv
  have s' := same_time x hv'
  rw [ei] at s
  rw [ei'] at s'
  have A0 := AN_line (y := x - 1) hv d1 rfl
  have A0' := AN_line (y := x - 1) hv' d1' rfl
  have A1 := AN_line (y := x) hv d1 (by rw [ei])
  have A1' := AN_line (y := x) hv' d1' (by rw [ei'])
  have A2 := AN_line (y := x + 1) hv d1 s
  have A2' := AN_line (y := x + 1) hv' d1' s'
  have B0 := ap_line hv hv' d1 d1' A0 A0'
  have B1 := ap_line hv hv' d1 d1' A1 A1'
  have B2 := ap_line hv hv' d1 d1' A2 A2'
  have lin : (aN L T (ix (pA L (x - 1)) n) (x - 1) * aD L' (ix (pA L' (x - 1)) n') - aN L' T' (ix (pA L' (x - 1)) n') (x - 1) * aD L (ix (pA L (x - 1)) n)) + (aN L T (ix (pA L (x - 1)) n) (x + 1) * aD L' (ix (pA L' (x - 1)) n') - aN L' T' (ix (pA L' (x - 1)) n') (x + 1) * aD L (ix (pA L (x - 1)) n)) = 2 * (aN L T (ix (pA L (x - 1)) n) x * aD L' (ix (pA L' (x - 1)) n') - aN L' T' (ix (pA L' (x - 1)) n') x * aD L (ix (pA L (x - 1)) n)) := by
    generalize ix (pA L (x - 1)) n = i
    generalize ix (pA L' (x - 1)) n' = i'
    have key : ∀ (L T : Nat → Int) (i : Nat) (d : Int), aN L T i (x - 1) * d + aN L T i (x + 1) * d = 2 * (aN L T i x * d) := fun L T i d => by
      have : aN L T i (x - 1) + aN L T i (x + 1) = 2 * aN L T i x := by
        unfold aN
        rw [show x - 1 - L i = (x - L i) - 1 by omega, show x + 1 - L i = (x - L i) + 1 by omega, Int.sub_mul, Int.add_mul]
        omega
      rw [← Int.add_mul, this, Int.mul_assoc]
    have k1 := key L T i (aD L' i')
    have k2 := key L' T' i' (aD L i)
    omega
  exact ⟨_, _, _, _, Int.mul_pos d1 d1', lin, B0, B1, B2⟩

theorem abs_zero_of {p dd q : Int} {m : Int} (hq : 0 < q) (h : p * dd = (m.natAbs : Int) * q) (hp : p = 0) : m = 0 := by
  rw [hp, Int.zero_mul] at h
  rcases Int.mul_eq_zero.1 h.symm with e | e <;> omega
theorem zero_of_abs {p dd q : Int} {m : Int} (hd : 0 < dd) (h : p * dd = (m.natAbs : Int) * q) (hm : m = 0) : p = 0 := by
  subst hm
  rw [show ((0 : Int).natAbs : Int) = 0 from rfl, Int.zero_mul] at h
  rcases Int.mul_eq_zero.1 h with e | e <;> omega
theorem zero_left {n n' : Nat} {L T L' T' : Nat → Int} (hv : vK n L T = true) (hv' : vK n' L' T' = true) {x : Int} (hs : Smooth n L x) (hs' : Smooth n' L' x)
    (h1 : apN n L T n' L' T' x = 0) (h2 : apN n L T n' L' T' (x + 1) = 0) : apN n L T n' L' T' (x - 1) = 0 := by
  obtain ⟨m0, m1, m2, dd, hd, e, B0, B1, B2⟩ := straight3 hv hv' hs hs'
  have z1 := abs_zero_of (apD_pos hv hv' x) B1 h1
  have z2 := abs_zero_of (apD_pos hv hv' (x + 1)) B2 h2
  exact zero_of_abs hd B0 (by omega)
theorem zero_right {n n' : Nat} {L T L' T' : Nat → Int} (hv : vK n L T = true) (hv' : vK n' L' T' = true) {x : Int} (hs : Smooth n L x) (hs' : Smooth n' L' x)
    (h1 : apN n L T n' L' T' x = 0) (h0 : apN n L T n' L' T' (x - 1) = 0) : apN n L T n' L' T' (x + 1) = 0 := by
  obtain ⟨m0, m1, m2, dd, hd, e, B0, B1, B2⟩ := straight3 hv hv' hs hs'
  have z1 := abs_zero_of (apD_pos hv hv' x) B1 h1
  have z0 := abs_zero_of (apD_pos hv hv' (x - 1)) B0 h0
  exact zero_of_abs hd B2 (by omega)

theorem px_app {n n' i : Nat} (L T L' T' : Nat → Int) (h : i < n) : px (pairs n L T ++ pairs n' L' T') i = L i := by
  unfold px
  rw [List.getD_eq_getElem?_getD, List.getElem?_append_left (by rw [pairs_length]; exact h), ← List.getD_eq_getElem?_getD]
  exact px_pairs L T h
theorem px_app' {n n' i : Nat} (L T L' T' : Nat → Int) (h : i < n') : px (pairs n L T ++ pairs n' L' T') (n + i) = L' i := by
  unfold px
  rw [List.getD_eq_getElem?_getD, List.getElem?_append_right (by rw [pairs_length]; omega), pairs_length, Nat.add_sub_cancel_left, ← List.getD_eq_getElem?_getD]
  exact px_pairs L' T' h

/-- A place that is no end and no mark is smooth. -/
theorem smooth_or {n n' : Nat} {L T L' T' : Nat → Int} {F G a : Int} (hn : 2 ≤ n) (hn' : 2 ≤ n') (h1 : F ≤ a) (h2 : a ≤ G) : WS F G (px (pairs n L T ++ pairs n' L' T')) (n + n') a ∨ (Smooth n L a ∧ Smooth n' L' a) := by
  by_cases hs : Smooth n L a
  · by_cases hs' : Smooth n' L' a
    · exact .inr ⟨hs, hs'⟩
    · refine .inl (.inr (.inr ?_))
      have ⟨j, hj⟩ := Classical.not_forall.1 hs'
      obtain ⟨j1, hj⟩ := Classical.not_imp.1 hj
      obtain ⟨j2, hj⟩ := Classical.not_imp.1 hj
      have e : L' j = a := Classical.not_not.1 hj
      have := px_app' (n := n) L T L' T' (show j < n' by omega)
      exact ⟨n + j, by omega, by rw [this, e]; exact ⟨h1, h2⟩, by rw [this, e]⟩
  · refine .inl (.inr (.inr ?_))
    have ⟨j, hj⟩ := Classical.not_forall.1 hs
    obtain ⟨j1, hj⟩ := Classical.not_imp.1 hj
    obtain ⟨j2, hj⟩ := Classical.not_imp.1 hj
    have e : L j = a := Classical.not_not.1 hj
    have := px_app (n' := n') L T L' T' (show j < n by omega)
    exact ⟨j, by omega, by rw [this, e]; exact ⟨h1, h2⟩, by rw [this, e]⟩

/-- The first greatest one between the ends lies at an end or a mark. -/
theorem mx_ws {n n' : Nat} {L T L' T' : Nat → Int} (hv : vK n L T = true) (hv' : vK n' L' T' = true) {F G a : Int} (h : RfM (apN n L T n' L' T') (apD n L T n' L' T') F (G + 1) a) : IsMx (apN n L T n' L' T') (apD n L T n' L' T') (WS F G (px (pairs n L T ++ pairs n' L' T')) (n + n')) a := by
  have hn := (vK_true.1 hv).1
  have hn' := (vK_true.1 hv').1
  obtain ⟨⟨ha1, ha2⟩, hm1, hm2⟩ := id h
  refine IsMx.sub h ?_ ?_
  · rintro y (rfl | rfl | ⟨i, _, a, rfl⟩)
    · exact ⟨by omega, by omega⟩
    · exact ⟨by omega, by omega⟩
    · exact ⟨a.1, by omega⟩
  · rcases smooth_or (T := T) (T' := T') hn hn' ha1 (show a ≤ G by omega) with h | ⟨hs, hs'⟩
    · exact h
    · by_cases e1 : a = F
      · exact .inl e1
      by_cases e2 : a = G
      · exact .inr (.inl e2)
      exact (no_peak hv hv' hs hs' (hm2 (a - 1) ⟨by omega, by omega⟩ (by omega)) (hm1 (a + 1) ⟨by omega, by omega⟩)).elim
theorem place_eq {n n' : Nat} {L T L' T' : Nat → Int} (hv : vK n L T = true) (hv' : vK n' L' T' = true) {F G a m : Int} (h : RfM (apN n L T n' L' T') (apD n L T n' L' T') F (G + 1) a)
    (k : IsMx (apN n L T n' L' T') (apD n L T n' L' T') (WS F G (px (pairs n L T ++ pairs n' L' T')) (n + n')) m) : m = a := k.unique (mx_ws hv hv' h)

/-- A greatest one of 0: all are 0. -/
theorem all_zero {p q : Int → Int} (hp : ∀ y, 0 ≤ p y) (hq : ∀ y, 0 < q y) {S : Int → Prop} {a : Int} (h : IsMx p q S a) (h0 : p a = 0) : ∀ y, S y → p y = 0 := fun y hy => by
  have := h.2.1 y hy
  unfold ltR at this
  rw [h0, Int.zero_mul] at this
  have hy := hp y
  rcases Int.lt_or_eq_of_le hy with e | e
  · exact absurd (Int.mul_pos e (hq a)) this
  · exact e.symm

theorem eqP_iff {n n' : Nat} {L T L' T' : Nat → Int} (hv : vK n L T = true) (hv' : vK n' L' T' = true) (x : Int) : (AN n L T x = AN n' L' T' x ∧ AD n L T x = AD n' L' T' x) ↔ apN n L T n' L' T' x = 0 := by
  have b := AD_bd x hv
  have b' := AD_bd x hv'
  have e := apE_pos hv hv' x
  have r := red_mul (max (apM n L T n' L' T' x) (-apM n L T n' L' T' x)) (apE n L T n' L' T' x)
  have d := apD_pos hv hv' x
  have g : ∀ M : Int, apM n L T n' L' T' x = M → (M = 0 ↔ apN n L T n' L' T' x = 0) := by
    intro M hM
    rw [hM] at r
    unfold apD at d
    unfold apN
    rw [hM] at d ⊢
    constructor
    · rintro rfl
      rw [show max (0 : Int) (-0) = 0 from rfl, Int.zero_mul] at r
      rcases Int.mul_eq_zero.1 r with h | h
      · exact h
      · omega
    · intro h
      rw [h, Int.zero_mul] at r
      rcases Int.mul_eq_zero.1 r.symm with h | h <;> omega
  rw [← g _ rfl]
  unfold apM
  constructor
  · rintro ⟨h1, h2⟩
    rw [h1, h2]
    omega
  · intro h
    exact cop_eq (red_cop (aD_bd hv _).1) (red_cop (aD_bd hv' _).1) (show 0 < AD n L T x by omega) (show 0 < AD n' L' T' x by omega) (show AN n L T x * AD n' L' T' x = AN n' L' T' x * AD n L T x by omega)

theorem same_iff {n n' : Nat} {L T L' T' : Nat → Int} (hv : vK n L T = true) (hv' : vK n' L' T' = true) {m : Int} (h : IsMx (apN n L T n' L' T') (apD n L T n' L' T') (WS 0 100000 (px (pairs n L T ++ pairs n' L' T')) (n + n')) m) :
    apN n L T n' L' T' m = 0 ↔ ∀ i, i < n + n' + 2 → AN n L T (smX n L L' i) = AN n' L' T' (smX n L L' i) ∧ AD n L T (smX n L L' i) = AD n' L' T' (smX n L L' i) := by
  obtain ⟨hn, hn30, hB, hs⟩ := vK_true.1 hv
  obtain ⟨hn', hn30', hB', hs'⟩ := vK_true.1 hv'
  have hq := fun y => apD_pos hv hv' y
  have hp := fun y => apN_nonneg (n := n) (L := L) (T := T) (n' := n') (L' := L') (T' := T') y
  have inside : ∀ {n : Nat} {L T : Nat → Int}, vK n L T = true → (∀ j, 0 < j → j ≤ n - 2 → 0 < L j ∧ L j < 100000) := fun hv j h1 h2 => by
    obtain ⟨hn, _, hB, hs⟩ := vK_true.1 hv
    have a := hs (j - 1) (by omega)
    have b := hs j (by omega)
    have c := hB (j - 1) (by omega)
    have d := hB (j + 1) (by omega)
    rw [show j - 1 + 1 = j by omega] at a
    omega
  constructor
  · intro h0
    obtain ⟨a, ha⟩ := IsMx.exists hq 0 100000
    rw [show (0 : Int) + ((100000 : Nat) : Int) + 1 = 100000 + 1 by rfl] at ha
    obtain rfl := place_eq hv hv' ha h
    have Z := all_zero hp hq ha h0
    have zl := zero_left hv hv' (x := 0) (fun j h1 h2 e => by have := inside hv j h1 h2; omega) (fun j h1 h2 e => by have := inside hv' j h1 h2; omega) (Z 0 ⟨by omega, by omega⟩) (Z 1 ⟨by omega, by omega⟩)
    have zr := zero_right hv hv' (x := 100000) (fun j h1 h2 e => by have := inside hv j h1 h2; omega) (fun j h1 h2 e => by have := inside hv' j h1 h2; omega) (Z 100000 ⟨by omega, by omega⟩) (Z (100000 - 1) ⟨by omega, by omega⟩)
    intro i hi
    rw [eqP_iff hv hv']
    unfold smX
    split
    · exact zl
    · split
      · exact zr
      · split
        · have := hB (i - 2) (by omega); exact Z _ ⟨by omega, by omega⟩
        · have := hB' (i - (n + 2)) (by omega); exact Z _ ⟨by omega, by omega⟩
  · intro he
    have hz : ∀ i, i < n + n' + 2 → apN n L T n' L' T' (smX n L L' i) = 0 := fun i hi => (eqP_iff hv hv' _).1 (he i hi)
    obtain ⟨a, ha⟩ := IsMx.exists hq (-1) 100002
    rw [show (-1 : Int) + ((100002 : Nat) : Int) + 1 = 100001 + 1 by rfl] at ha
    have hw := (mx_ws hv hv' ha).1
    have h0 : apN n L T n' L' T' a = 0 := by
      rcases hw with rfl | rfl | ⟨i, hi, _, e⟩
      · exact hz 0 (by omega)
      · exact hz 1 (by omega)
      · rcases Nat.lt_or_ge i n with hl | hl
        · rw [px_app L T L' T' hl] at e
          have := hz (i + 2) (by omega)
          unfold smX at this
          rw [if_neg (by omega), if_neg (by omega), if_pos (by omega), Nat.add_sub_cancel, e] at this
          exact this
        · obtain ⟨j, rfl⟩ : ∃ j, i = n + j := ⟨i - n, by omega⟩
          rw [px_app' L T L' T' (by omega)] at e
          have := hz (n + 2 + j) (by omega)
          unfold smX at this
          rw [if_neg (by omega), if_neg (by omega), if_neg (by omega), Nat.add_sub_cancel_left, e] at this
          exact this
    refine all_zero hp hq ha h0 m ?_
    rcases h.1 with rfl | rfl | ⟨i, _, a, rfl⟩
    · exact ⟨by omega, by omega⟩
    · exact ⟨by omega, by omega⟩
    · exact ⟨by omega, by omega⟩

end Go.Proofs.Ytdlbgelidcfmiaa
