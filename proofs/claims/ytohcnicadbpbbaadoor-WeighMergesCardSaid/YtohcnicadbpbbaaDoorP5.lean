/- Which outcome comes first: the order of the row. -/
import Derived.Test.YtohcnicadbpbbaaDoorWA
import Derived.Test.YtohcnicadbpbbaaDoorP3
import Derived.Test.YtohcnicadbpbbaaDoorP4
namespace Go.Proofs.YtohcnicadbpbbaaDoor

theorem cmpO_lt {f g : Nat → Int} {a b : Nat} : cmpO f g a b < 0 ↔ nth f g a < nth f g b ∨ (nth f g a = nth f g b ∧ 0 < crs f g a b) := by
  unfold cmpO orI cmpI crs
  repeat' split
  all_goals omega
theorem cmpO_eq {f g : Nat → Int} {a b : Nat} : cmpO f g a b = 0 ↔ nth f g a = nth f g b ∧ crs f g a b = 0 := by
  unfold cmpO orI cmpI crs
  repeat' split
  all_goals omega
theorem nth_cases {f g : Nat → Int} {a : Nat} (hf : 0 ≤ f a) (hg : 0 ≤ g a) : (nth f g a = 1 ∧ f a = 0 ∧ g a = 0) ∨ (nth f g a = 0 ∧ 0 < f a + g a) := by
  unfold nth
  split <;> omega

/-- Whether an outcome comes before another one in the row. -/
def befO (f g : Nat → Int) (a b : Nat) : Bool := decide (cmpO f g a b < 0) || (decide (cmpO f g a b = 0) && decide (a < b))
theorem befO_iff {f g : Nat → Int} {a b : Nat} : befO f g a b = true ↔ nth f g a < nth f g b ∨ (nth f g a = nth f g b ∧ (0 < crs f g a b ∨ (crs f g a b = 0 ∧ a < b))) := by
  unfold befO
  rw [Bool.or_eq_true, Bool.and_eq_true, decide_eq_true_eq, decide_eq_true_eq, decide_eq_true_eq, cmpO_lt, cmpO_eq]
  omega
theorem crs_swap (f g : Nat → Int) (a b : Nat) : crs f g b a = -crs f g a b := by unfold crs; omega
theorem befO_irr (f g : Nat → Int) (a : Nat) : befO f g a a = false := by
  rw [Bool.eq_false_iff]
  intro h
  have := befO_iff.1 h
  have e := crs_swap f g a a
  omega
theorem befO_tot (f g : Nat → Int) (a b : Nat) (h : befO f g a b = false) (hne : a ≠ b) : befO f g b a = true := by
  rw [befO_iff]
  have h' : ¬ (befO f g a b = true) := by rw [h]; simp
  rw [befO_iff] at h'
  have e := crs_swap f g a b
  omega
theorem befO_tr {f g : Nat → Int} (hf : ∀ i, 0 ≤ f i) (hg : ∀ i, 0 ≤ g i) (a b c : Nat) (h1 : befO f g a b = true) (h2 : befO f g b c = true) : befO f g a c = true := by
  rw [befO_iff] at *
  rcases nth_cases (hf a) (hg a) with ⟨na, fa, ga⟩ | ⟨na, pa⟩ <;> rcases nth_cases (hf b) (hg b) with ⟨nb, fb, gb⟩ | ⟨nb, pb⟩ <;> rcases nth_cases (hf c) (hg c) with ⟨nc, fc, gc⟩ | ⟨nc, pc⟩
  all_goals try omega
  · have z : ∀ x y, f x = 0 → g x = 0 → f y = 0 → g y = 0 → crs f g x y = 0 := fun x y p q r s => by unfold crs; rw [p, q, r, s]; rfl
    have := z a b fa ga fb gb
    have := z b c fb gb fc gc
    have := z a c fa ga fc gc
    omega
  · have k := crs_pos pa pb pc (by omega) (by omega)
    omega

end Go.Proofs.YtohcnicadbpbbaaDoor
