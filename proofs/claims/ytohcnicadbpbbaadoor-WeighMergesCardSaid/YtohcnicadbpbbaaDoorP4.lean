/- Which outcome comes first: a strict order. -/
namespace Go.Proofs.YtohcnicadbpbbaaDoor

/-- Above 0, if the first comes first. -/
def crs (f g : Nat → Int) (a b : Nat) : Int := g a * f b - g b * f a
theorem crs_key (f g : Nat → Int) (a b c : Nat) : (f b + g b) * crs f g a c = (f c + g c) * crs f g a b + (f a + g a) * crs f g b c := by
  unfold crs
  simp only [Int.mul_sub, Int.add_mul]
  have e1 : f b * (g a * f c) = f c * (g a * f b) := by ac_rfl
  have e2 : f b * (g c * f a) = f a * (g c * f b) := by ac_rfl
  have e3 : g b * (g a * f c) = g a * (g b * f c) := by ac_rfl
  have e4 : g b * (g c * f a) = g c * (g b * f a) := by ac_rfl
  have e5 : f c * (g b * f a) = f a * (g b * f c) := by ac_rfl
  have e6 : g c * (g a * f b) = g a * (g c * f b) := by ac_rfl
  omega
theorem crs_pos {f g : Nat → Int} {a b c : Nat} (ha : 0 < f a + g a) (hb : 0 < f b + g b) (hc : 0 < f c + g c) (h1 : 0 ≤ crs f g a b) (h2 : 0 ≤ crs f g b c) : 0 ≤ crs f g a c ∧ (0 < crs f g a b ∨ 0 < crs f g b c → 0 < crs f g a c) := by
  have k := crs_key f g a b c
  have m1 := Int.mul_nonneg (Int.le_of_lt hc) h1
  have m2 := Int.mul_nonneg (Int.le_of_lt ha) h2
  refine ⟨?_, fun h => ?_⟩
  · rcases Int.lt_or_le (crs f g a c) 0 with h | h
    · have := Int.mul_neg_of_pos_of_neg hb h; omega
    · exact h
  · rcases Int.lt_or_le 0 (crs f g a c) with h3 | h3
    · exact h3
    · have m3 : (f b + g b) * crs f g a c ≤ 0 := Int.mul_nonpos_of_nonneg_of_nonpos (Int.le_of_lt hb) h3
      rcases h with h | h
      · have := Int.mul_pos hc h; omega
      · have := Int.mul_pos ha h; omega

end Go.Proofs.YtohcnicadbpbbaaDoor
