/- The area under the curve is the count of pairs: the plain law. -/
import Derived.Test.YtohcnicadbpbbaaDoorP6
namespace Go.Proofs.YtohcnicadbpbbaaDoor

theorem ord_row {f g : Nat → Int} (hf : ∀ i, 0 ≤ f i) (hg : ∀ i, 0 ≤ g i) {n : Nat} (hn : 0 < n) : Ord (befO f g) n n (rowN f g n) :=
  Ord.all (befO_tr hf hg) (befO_tot f g) (fun a b h => by
    unfold befO
    have : decide (a < b) = false := by simp; omega
    rw [this]; simp) (n - 1) 1 id (by omega) (Ord.start _ n)
theorem crs_self (f g : Nat → Int) (a : Nat) : crs f g a a = 0 := by have := crs_swap f g a a; omega

/-- What a pair of outcomes counts, in halves. -/
def parN (f g : Nat → Int) (a b : Nat) : Int := if 0 < crs f g a b then 2 * (g a * f b) else if crs f g a b = 0 then g a * f b else 0
theorem par_two (f g : Nat → Int) (a b : Nat) : parN f g a b + parN f g b a = 2 * max (g a * f b) (g b * f a) := by
  have e := crs_swap f g a b
  have d : crs f g a b = g a * f b - g b * f a := rfl
  unfold parN
  generalize g a * f b = x at *
  generalize g b * f a = y at *
  rw [e]
  repeat' split
  all_goals omega
theorem par_bef {f g : Nat → Int} (hf : ∀ i, 0 ≤ f i) (hg : ∀ i, 0 ≤ g i) {a b : Nat} (h : befO f g a b = true) : parN f g a b + parN f g b a = 2 * (g a * f b) := by
  have d : crs f g a b = g a * f b - g b * f a := rfl
  have c : 0 ≤ crs f g a b := by
    rcases befO_iff.1 h with h1 | h1
    · rcases nth_cases (hf b) (hg b) with ⟨nb, fb, gb⟩ | ⟨nb, pb⟩
      · unfold crs; rw [fb, gb]; simp
      · rcases nth_cases (hf a) (hg a) with ⟨na, fa, ga⟩ | ⟨na, pa⟩ <;> omega
    · omega
  rw [par_two]
  generalize g a * f b = x at *
  generalize g b * f a = y at *
  omega
theorem par_self (f g : Nat → Int) (a : Nat) : parN f g a a = g a * f a := by
  unfold parN; rw [crs_self]; simp

/-- The count of pairs, in halves. -/
def prs (f g : Nat → Int) (n : Nat) : Int := sm (fun a => sm (fun b => parN f g a b) n) n
/-- The area along a row, in halves. -/
def areN (f g : Nat → Int) (R : Nat → Nat) (n : Nat) : Int := sm (fun p => f (R p) * (2 * sm (fun q => g (R q)) p + g (R p))) n

theorem tri {f g : Nat → Int} {R : Nat → Nat} {n : Nat} (hp : ∀ p q, p < q → q < n → parN f g (R p) (R q) + parN f g (R q) (R p) = 2 * (g (R p) * f (R q))) :
    ∀ {m : Nat}, m ≤ n → sm (fun p => sm (fun q => parN f g (R p) (R q)) m) m = areN f g R m
  | 0, _ => rfl
  | m + 1, hm => by
    have a := tri hp (m := m) (by omega)
    show sm (fun p => sm (fun q => parN f g (R p) (R q)) m + parN f g (R p) (R m)) m + (sm (fun q => parN f g (R m) (R q)) m + parN f g (R m) (R m)) = areN f g R m + f (R m) * (2 * sm (fun q => g (R q)) m + g (R m))
    rw [sm_add, a, par_self]
    have b : sm (fun p => parN f g (R p) (R m)) m + sm (fun q => parN f g (R m) (R q)) m = 2 * (sm (fun q => g (R q)) m * f (R m)) := by
      rw [← sm_add, sm_congr (fun i hi => hp i m hi (by omega)), sm_mul, sm_mulr]
    rw [Int.mul_add]
    have c : f (R m) * (2 * sm (fun q => g (R q)) m) = 2 * (sm (fun q => g (R q)) m * f (R m)) := by ac_rfl
    have d : f (R m) * g (R m) = g (R m) * f (R m) := Int.mul_comm _ _
    omega
/-- THE AREA IS THE COUNT OF PAIRS. -/
theorem area_pairs {f g : Nat → Int} (hf : ∀ i, 0 ≤ f i) (hg : ∀ i, 0 ≤ g i) {n : Nat} (hn : 0 < n) : areN f g (rowN f g n) n = prs f g n := by
  have O := ord_row hf hg hn
  rw [← tri (fun p q hpq hq => par_bef hf hg (O.lt (befO_tr hf hg) p q hpq hq)) (Nat.le_refl n)]
  unfold prs
  rw [← sm_row f g (fun a => sm (fun b => parN f g a b) n) hn]
  exact sm_congr fun p _ => sm_row f g (fun b => parN f g (rowN f g n p) b) hn

theorem sm_swap (h : Nat → Nat → Int) (n : Nat) : ∀ m, sm (fun a => sm (fun b => h a b) n) m = sm (fun b => sm (fun a => h a b) m) n
  | 0 => by
    show 0 = sm (fun _ => 0) n
    have := sm_mul 0 (fun _ => 0) n
    simp at this
    exact this.symm
  | m + 1 => by
    show sm (fun a => sm (fun b => h a b) n) m + sm (fun b => h m b) n = sm (fun b => sm (fun a => h a b) m + h m b) n
    rw [sm_swap h n m, sm_add]
/-- The count of pairs as a sum of greatest products. -/
def mxS (f g : Nat → Int) (n : Nat) : Int := sm (fun a => sm (fun b => max (g a * f b) (g b * f a)) n) n
theorem prs_mx (f g : Nat → Int) (n : Nat) : prs f g n = mxS f g n := by
  have a : 2 * mxS f g n = prs f g n + prs f g n := by
    have e : prs f g n = sm (fun a => sm (fun b => parN f g b a) n) n := sm_swap (fun a b => parN f g a b) n n
    unfold mxS
    rw [← sm_mul]
    have e2 : prs f g n + prs f g n = prs f g n + sm (fun a => sm (fun b => parN f g b a) n) n := by rw [← e]
    rw [e2]
    unfold prs
    rw [← sm_add]
    refine sm_congr fun a _ => ?_
    show 2 * sm (fun b => max (g a * f b) (g b * f a)) n = sm (fun b => parN f g a b) n + sm (fun b => parN f g b a) n
    rw [← sm_add, ← sm_mul]
    exact sm_congr fun b _ => (par_two f g a b).symm
  omega
theorem sm_prod (f g : Nat → Int) (n m : Nat) : sm (fun a => sm (fun b => g a * f b) m) n = sm g n * sm f m := by
  rw [← sm_mulr]
  exact sm_congr fun a _ => sm_mul (g a) f m
theorem mx_le {f g : Nat → Int} {n : Nat} (hf : ∀ i, i < n → 0 ≤ f i) (hg : ∀ i, i < n → 0 ≤ g i) : mxS f g n ≤ 2 * (sm g n * sm f n) := by
  have a : mxS f g n ≤ sm (fun a => sm (fun b => g a * f b + g b * f a) n) n := sm_mono fun a ha => sm_mono fun b hb => by
    have x := Int.mul_nonneg (hg a ha) (hf b hb)
    have y := Int.mul_nonneg (hg b hb) (hf a ha)
    omega
  have b : sm (fun a => sm (fun b => g a * f b + g b * f a) n) n = sm g n * sm f n + sm g n * sm f n := by
    rw [sm_congr (fun a _ => sm_add (fun b => g a * f b) (fun b => g b * f a) n), sm_add, sm_prod, sm_swap (fun a b => g b * f a) n n, sm_prod]
  omega
theorem le_mx (f g : Nat → Int) (n : Nat) : sm g n * sm f n ≤ mxS f g n := by
  rw [← sm_prod]
  exact sm_mono fun a _ => sm_mono fun b _ => by omega
theorem mx_swap (f g : Nat → Int) (n : Nat) : mxS g f n = mxS f g n := by
  refine sm_congr fun a _ => sm_congr fun b _ => ?_
  show max (f a * g b) (f b * g a) = max (g a * f b) (g b * f a)
  rw [Int.mul_comm (f a), Int.mul_comm (f b), Int.max_comm]

end Go.Proofs.YtohcnicadbpbbaaDoor
