/- The weights that the program tells: they are found, and they prove just the least cost: the plain law. -/
import Derived.Test.YtbhndfnfohoidaaPE
import Derived.Test.YtbhndfnfohoidaaWC
namespace Go.Proofs.Ytbhndfnfohoidaa
open Go.Firn

/-- The weights of the points beside the line. -/
def fil (m : Int) (r0 : Nat → Int) (j : Nat) : Int := m * cmpI (r0 j) 0
/-- The weights of the points on the line, by the bits of s. -/
def sgW (m : Int) (l : List Nat) (s : Nat) (f : Nat → Int) : Nat → Nat → Int
  | 0 => f
  | t + 1 => upd (sgW m l s f t) (l.getD t 0) (m * (2 * ((s / 2 ^ t % 2 : Nat) : Int) - 1))
def fin (m : Int) (r0 : Nat → Int) (l : List Nat) (s : Nat) : Nat → Int := sgW m l s (fil m r0) l.length

theorem cmp_sn (x : Int) : cmpI x 0 = sn x := by unfold cmpI sn; split <;> split <;> (try split) <;> omega
theorem sn_bd (x : Int) : -1 ≤ sn x ∧ sn x ≤ 1 := by unfold sn; split <;> (try split) <;> omega

theorem bits_any (g : Nat → Int) (hg : ∀ j, g j = 1 ∨ g j = -1) : ∀ t, ∃ s, s < 2 ^ t ∧ ∀ b, b < t → 2 * ((s / 2 ^ b % 2 : Nat) : Int) - 1 = g b := by
  intro t
  induction t generalizing g with
  | zero => exact ⟨0, by simp, fun b h => by omega⟩
  | succ t ih =>
    obtain ⟨s, hs, hb⟩ := ih (fun b => g (b + 1)) (fun j => hg _)
    obtain ⟨c, hc⟩ : ∃ c : Nat, c < 2 ∧ 2 * (c : Int) - 1 = g 0 := by
      rcases hg 0 with h | h
      · exact ⟨1, by omega, by omega⟩
      · exact ⟨0, by omega, by omega⟩
    refine ⟨2 * s + c, by rw [Nat.pow_succ]; omega, fun b h => ?_⟩
    cases b with
    | zero =>
      rw [Nat.pow_zero, Nat.div_one]
      omega
    | succ b =>
      have e : (2 * s + c) / 2 ^ (b + 1) = s / 2 ^ b := by
        rw [Nat.pow_succ', ← Nat.div_div_eq_div_mul]
        congr 1
        omega
      rw [e]
      exact hb b (by omega)

theorem sgW_mul {m : Int} {l : List Nat} {s : Nat} {f : Nat → Int} (hf : ∀ j, ∃ e, f j = m * e ∧ -1 ≤ e ∧ e ≤ 1) : ∀ t j, ∃ e, sgW m l s f t j = m * e ∧ -1 ≤ e ∧ e ≤ 1 := by
  intro t
  induction t with
  | zero => exact hf
  | succ t ih =>
    intro j
    unfold sgW upd
    split
    · exact ⟨_, rfl, by omega, by omega⟩
    · exact ih j
theorem sgW_off {m : Int} {l : List Nat} {s : Nat} {f : Nat → Int} {j : Nat} : ∀ {t}, (∀ b, b < t → l.getD b 0 ≠ j) → sgW m l s f t j = f j := by
  intro t
  induction t with
  | zero => intro _; rfl
  | succ t ih =>
    intro h
    unfold sgW upd
    rw [if_neg (fun e => h t (by omega) e.symm), ih fun b hb => h b (by omega)]
theorem sgW_on {m : Int} {l : List Nat} {s : Nat} {f g : Nat → Int} {j T : Nat} (hs : ∀ b, b < T → 2 * ((s / 2 ^ b % 2 : Nat) : Int) - 1 = g (l.getD b 0)) : ∀ {t}, t ≤ T → (∃ b, b < t ∧ l.getD b 0 = j) → sgW m l s f t j = m * g j := by
  intro t
  induction t with
  | zero => rintro _ ⟨b, h, _⟩; omega
  | succ t ih =>
    rintro ht ⟨b, hb, e⟩
    unfold sgW upd
    by_cases h : j = l.getD t 0
    · rw [if_pos h, hs t (by omega), h]
    · rw [if_neg h]
      refine ih (by omega) ⟨b, ?_, e⟩
      rcases Nat.lt_or_ge b t with h' | h'
      · exact h'
      · have : b = t := by omega
        subst this
        exact absurd e.symm h

theorem onL_mem {p : Nat → Bool} {n j : Nat} : j ∈ onL p n ↔ j < n ∧ p j = true := by unfold onL; rw [List.mem_filter, List.mem_range]
theorem onL_rd {p : Nat → Bool} {n t : Nat} (h : t < (onL p n).length) : (onL p n).getD t 0 < n ∧ p ((onL p n).getD t 0) = true := by
  rw [← onL_mem, List.getD_eq_getElem?_getD, List.getElem?_eq_getElem h]
  exact List.getElem_mem h
theorem onL_of {p : Nat → Bool} {n j : Nat} (hj : j < n) (hp : p j = true) : ∃ t, t < (onL p n).length ∧ (onL p n).getD t 0 = j := by
  obtain ⟨t, h, e⟩ := List.getElem_of_mem (onL_mem.2 ⟨hj, hp⟩)
  exact ⟨t, h, by rw [List.getD_eq_getElem?_getD, List.getElem?_eq_getElem h, ← e]; rfl⟩
theorem on_any_iff {p : Nat → Bool} {n j : Nat} (hj : j < n) : anyI (nf (onL p n)) (onL p n).length j = p j := by
  cases h : p j with
  | true =>
    obtain ⟨t, ht, e⟩ := onL_of hj h
    exact anyI_stop ht (by unfold nf; rw [e])
  | false =>
    unfold anyI
    rw [List.any_eq_false]
    intro t ht
    rw [List.mem_range] at ht
    obtain ⟨_, k⟩ := onL_rd ht
    intro e
    have e' : (onL p n).getD t 0 = j := by unfold nf at e; have := beq_iff_eq.1 e; omega
    rw [e'] at k
    rw [h] at k
    cases k

theorem sm_upd {f g : Nat → Int} {i : Nat} {x : Int} : ∀ {n : Nat}, sm (fun j => upd f i x j * g j) n = sm (fun j => f j * g j) n + (if i < n then (x - f i) * g i else 0) := by
  intro n
  induction n with
  | zero => rfl
  | succ n ih =>
    unfold sm
    rw [ih]
    unfold upd
    by_cases h : n = i
    · subst h
      rw [if_pos rfl, if_neg (by omega), if_pos (by omega), Int.sub_mul]
      omega
    · rw [if_neg h]
      by_cases h2 : i < n
      · rw [if_pos h2, if_pos (by omega)]; omega
      · rw [if_neg h2, if_neg (by omega)]; omega

theorem sm_fac {m : Int} {f : Nat → Int} : ∀ {n : Nat}, (∀ j, j < n → ∃ e, f j = m * e) → ∃ e, sm f n = m * e := by
  intro n
  induction n with
  | zero => intro _; exact ⟨0, by unfold sm; simp⟩
  | succ n ih =>
    intro h
    obtain ⟨a, ha⟩ := ih fun j hj => h j (by omega)
    obtain ⟨b, hb⟩ := h n (by omega)
    exact ⟨a + b, by unfold sm; rw [ha, hb, Int.mul_add]⟩

/-- What the two weights do. -/
theorem sol_eq {n : Nat} {X f : Nat → Int} {i k : Nat} (hm : ∀ j, j < n → ∃ e, f j = ab (X i - X k) * e) : solV n X f i k * (X i - X k) = solS n f i k * X k - solM n X f i k ∧ solU n X f i k * (X i - X k) = solM n X f i k - solS n f i k * X i := by
  have h0 : ∀ j, j < n → ∃ e, sol0 f i k j = ab (X i - X k) * e := fun j hj => by
    unfold sol0 upd
    split
    · exact ⟨0, by simp⟩
    · split
      · exact ⟨0, by simp⟩
      · exact hm j hj
  obtain ⟨S, hS⟩ := sm_fac h0
  obtain ⟨M, hM⟩ := sm_fac (f := fun j => sol0 f i k j * X j) (m := ab (X i - X k)) (n := n) fun j hj => by obtain ⟨e, he⟩ := h0 j hj; exact ⟨e * X j, by show sol0 f i k j * X j = _; rw [he, Int.mul_assoc]⟩
  have hd : (X i - X k) ∣ solS n f i k * X k - solM n X f i k := by
    unfold solS solM
    rw [hS, hM]
    rcases ab_cases (X i - X k) with ⟨_, h⟩ | ⟨_, h⟩
    · exact ⟨S * X k - M, by rw [h]; generalize X i - X k = d; grind⟩
    · exact ⟨-(S * X k - M), by rw [h]; generalize X i - X k = d; grind⟩
  have e1 : solV n X f i k * (X i - X k) = solS n f i k * X k - solM n X f i k := Int.tdiv_mul_cancel hd
  refine ⟨e1, ?_⟩
  unfold solU
  rw [Int.sub_mul, e1]
  generalize solS n f i k = s
  generalize solM n X f i k = q
  grind

/-- The weights that are found make both sums 0. -/
theorem sol_zero {n : Nat} {X f : Nat → Int} {i k : Nat} (hi : i < n) (hk : k < n) (hx : X i ≠ X k) (hm : ∀ j, j < n → ∃ e, f j = ab (X i - X k) * e) : sm (solF n X f i k) n = 0 ∧ sm (fun j => solF n X f i k j * X j) n = 0 := by
  have ik : i ≠ k := fun e => hx (by rw [e])
  have z1 : sol0 f i k i = 0 := by unfold sol0 upd; rw [if_neg ik, if_pos rfl]
  have z2 : sol0 f i k k = 0 := by unfold sol0 upd; rw [if_pos rfl]
  have e := fun (g : Nat → Int) => sm_upd (f := upd (sol0 f i k) i (solV n X f i k)) (g := g) (i := k) (x := solU n X f i k) (n := n)
  have e' := fun (g : Nat → Int) => sm_upd (f := sol0 f i k) (g := g) (i := i) (x := solV n X f i k) (n := n)
  have z3 : upd (sol0 f i k) i (solV n X f i k) k = 0 := by unfold upd; rw [if_neg (Ne.symm ik)]; exact z2
  have key : ∀ g : Nat → Int, sm (fun j => solF n X f i k j * g j) n = sm (fun j => sol0 f i k j * g j) n + solV n X f i k * g i + solU n X f i k * g k := fun g => by
    have h1 := e g
    have h2 := e' g
    rw [if_pos hk, z3] at h1
    rw [if_pos hi, z1] at h2
    unfold solF
    rw [h1, h2, Int.sub_zero, Int.sub_zero]
  obtain ⟨q1, q2⟩ := sol_eq hm
  constructor
  · have h := key (fun _ => 1)
    simp only [Int.mul_one] at h
    rw [show (fun j => solF n X f i k j) = solF n X f i k from rfl, show (fun j => sol0 f i k j) = sol0 f i k from rfl] at h
    rw [h]
    unfold solU solS
    omega
  · rw [key X]
    show solM n X f i k + _ + _ = 0
    have : solU n X f i k = -solS n f i k - solV n X f i k := rfl
    rw [this]
    generalize solV n X f i k = v at *
    generalize solS n f i k = s at *
    generalize solM n X f i k = q at *
    grind
end Go.Proofs.Ytbhndfnfohoidaa

namespace Go.Proofs.Ytbhndfnfohoidaa
open Go.Firn

/-- Weights that prove just the cost of a line. -/
structure Good (n : Nat) (X r0 W : Nat → Int) (m : Int) : Prop where
  pos : 0 < m
  most : m ≤ 200
  sum : sm W n = 0
  mom : sm (fun j => W j * X j) n = 0
  bd : ∀ j, j < n → ab (W j) ≤ m
  off : ∀ j, j < n → r0 j ≠ 0 → W j = m * sn (r0 j)

theorem fil_mul (m : Int) (r0 : Nat → Int) : ∀ j, ∃ e, fil m r0 j = m * e ∧ -1 ≤ e ∧ e ≤ 1 := fun j => ⟨sn (r0 j), by unfold fil; rw [cmp_sn], sn_bd _⟩
theorem fin_mul (m : Int) (r0 : Nat → Int) (l : List Nat) (s : Nat) : ∀ t j, ∃ e, sgW m l s (fil m r0) t j = m * e ∧ -1 ≤ e ∧ e ≤ 1 := sgW_mul (fil_mul m r0)
theorem mul1_bd {m e : Int} (hm : 0 ≤ m) (h : -1 ≤ e ∧ e ≤ 1) : -m ≤ m * e ∧ m * e ≤ m := by
  have a := Int.mul_le_mul_of_nonneg_left h.1 hm
  have b := Int.mul_le_mul_of_nonneg_left h.2 hm
  rw [Int.mul_neg, Int.mul_one] at a
  rw [Int.mul_one] at b
  exact ⟨a, b⟩

/-- Where the two weights are not too great, all is well. -/
theorem good_of {n : Nat} {X r0 : Nat → Int} {p : Nat → Bool} (hp : ∀ j, p j = decide (r0 j = 0)) (hX : ∀ j, j < n → -100 ≤ X j ∧ X j ≤ 100) {i k s : Nat} (hi : i < n) (hk : k < n) (hx : X i ≠ X k) (pi : p i = true) (pk : p k = true)
    (h : solB n X (fin (ab (X i - X k)) r0 (onL p n) s) (ab (X i - X k)) i k = true) : Good n X r0 (solF n X (fin (ab (X i - X k)) r0 (onL p n) s) i k) (ab (X i - X k)) := by
  have hm : 0 < ab (X i - X k) := by unfold ab; omega
  obtain ⟨z1, z2⟩ := sol_zero (f := fin (ab (X i - X k)) r0 (onL p n) s) hi hk hx (fun j _ => by obtain ⟨e, h, _⟩ := fin_mul (ab (X i - X k)) r0 (onL p n) s (onL p n).length j; exact ⟨e, h⟩)
  unfold solB at h
  rw [Bool.and_eq_true, decide_eq_true_eq, decide_eq_true_eq] at h
  have hi' := hX i hi
  have hk' := hX k hk
  refine ⟨hm, by unfold ab; omega, z1, z2, fun j _ => ?_, fun j hj hr => ?_⟩
  · unfold solF upd
    split
    · exact h.2
    · split
      · exact h.1
      · unfold sol0 upd
        rw [if_neg (by assumption), if_neg (by assumption)]
        obtain ⟨e, he, b⟩ := fin_mul (ab (X i - X k)) r0 (onL p n) s (onL p n).length j
        rw [show fin (ab (X i - X k)) r0 (onL p n) s j = _ from he, ab_le]
        exact mul1_bd (by omega) b
  · have ji : j ≠ i := fun e => by subst e; rw [hp, decide_eq_true_eq] at pi; exact hr pi
    have jk : j ≠ k := fun e => by subst e; rw [hp, decide_eq_true_eq] at pk; exact hr pk
    unfold solF sol0 upd
    rw [if_neg jk, if_neg ji, if_neg jk, if_neg ji]
    unfold fin
    rw [sgW_off, fil, cmp_sn]
    rintro b hb rfl
    have := (onL_rd hb).2
    rw [hp, decide_eq_true_eq] at this
    exact hr this

/-- Such weights prove just the cost. -/
theorem good_worth {n : Nat} {X Y W : Nat → Int} {A B D m : Int} (G : Good n X (fun j => rs (X j) (Y j) A B D) W m) : sm (fun j => W j * Y j) n * D = m * sumA X Y A B D n := by
  have e1 : ∀ j, j < n → W j * Y j * D = m * ab (rs (X j) (Y j) A B D) + 1 * (A * (W j * X j) + B * W j) := fun j hj => by
    have r : W j * Y j * D = W j * rs (X j) (Y j) A B D + (A * (W j * X j) + B * W j) := by unfold rs; grind
    rw [r, Int.one_mul]
    congr 1
    by_cases h : rs (X j) (Y j) A B D = 0
    · rw [h]; unfold ab; simp
    · rw [G.off j hj h, Int.mul_assoc]
      congr 1
      show sn (rs (X j) (Y j) A B D) * _ = _
      generalize rs (X j) (Y j) A B D = r at *
      unfold sn ab
      rw [if_neg h]
      split <;> omega
  rw [sumA_sm, ← sm_mul, sm_congr e1, sm_lin, sm_lin, G.mom, G.sum]
  omega

theorem all_w {n : Nat} {X Y : Nat → Int} (V : VP n X Y) {b : Nat × Nat} (hb : bst n X Y (prs X n) = some b) (u v : Int) : 0 ≤ HS n (fun i => rs (X i) (Y i) (pA X Y b) (pB X Y b) (pD X Y b)) (fun i => u + v * X i) := by
  have pb := prs_pr (X := X) (Nat.le_refl n) b (bst_mem hb)
  have own := on_own (Y := Y) pb.2.2
  exact hs_all (X := X) (r := fun i => rs (X i) (Y i) (pA X Y b) (pB X Y b) (pD X Y b)) (fun j hj rj s hs => ray_ok V hb hj rj hs) (i0 := b.1) (k0 := b.2) (by have := pb.1; have := pb.2.1; omega) pb.2.1 own.1 own.2 pb.2.2 u v

/-- By the signs g the two weights are not too great. -/
theorem sol_ok {n : Nat} {X r0 g : Nat → Int} {p : Nat → Bool} (hp : ∀ j, p j = decide (r0 j = 0)) {a b s : Nat} (hx : X a ≠ X b) (ra : r0 a = 0) (rb : r0 b = 0)
    (hs : ∀ t, t < (onL p n).length → 2 * ((s / 2 ^ t % 2 : Nat) : Int) - 1 = g ((onL p n).getD t 0))
    (h1 : ab (sm (fun j => wt0 r0 g a b j * (X j - X a)) n) ≤ ab (X a - X b)) (h2 : ab (sm (fun j => wt0 r0 g a b j * (X j - X b)) n) ≤ ab (X a - X b)) :
    solB n X (fin (ab (X a - X b)) r0 (onL p n) s) (ab (X a - X b)) a b = true := by
  have hm : 0 < ab (X a - X b) := by unfold ab; omega
  obtain ⟨f, hf⟩ : ∃ f, fin (ab (X a - X b)) r0 (onL p n) s = f := ⟨_, rfl⟩
  have hfm : ∀ j, ∃ e, f j = ab (X a - X b) * e := fun j => by obtain ⟨e, h, _⟩ := fin_mul (ab (X a - X b)) r0 (onL p n) s (onL p n).length j; exact ⟨e, by rw [← hf]; exact h⟩
  have e0 : ∀ j, j < n → sol0 f a b j = ab (X a - X b) * wt0 r0 g a b j := fun j hj => by
    unfold sol0 upd wt0
    by_cases h : r0 j = 0
    · rw [if_pos h]
      by_cases jb : j = b
      · rw [if_pos jb, if_pos (.inr jb), Int.mul_zero]
      · rw [if_neg jb]
        by_cases ja : j = a
        · rw [if_pos ja, if_pos (.inl ja), Int.mul_zero]
        · rw [if_neg ja, if_neg (by rintro (h | h) <;> contradiction), ← hf]
          exact sgW_on hs (Nat.le_refl _) (onL_of hj (by rw [hp, decide_eq_true_eq]; exact h))
    · rw [if_neg h, if_neg (fun e => h (by rw [e]; exact rb)), if_neg (fun e => h (by rw [e]; exact ra)), ← hf]
      unfold fin
      rw [sgW_off, fil, cmp_sn]
      rintro t ht rfl
      have := (onL_rd ht).2
      rw [hp, decide_eq_true_eq] at this
      exact h this
  obtain ⟨q1, q2⟩ := sol_eq (n := n) (X := X) (f := f) (i := a) (k := b) (fun j _ => hfm j)
  have T : ∀ c, solS n f a b * c - solM n X f a b = ab (X a - X b) * -sm (fun j => wt0 r0 g a b j * (X j - c)) n := fun c => by
    have k1 : solS n f a b = sm (wt0 r0 g a b) n * ab (X a - X b) := by unfold solS; rw [sm_congr e0, ← sm_mul]; exact sm_congr fun j _ => Int.mul_comm _ _
    have k2 : solM n X f a b = sm (fun j => wt0 r0 g a b j * X j) n * ab (X a - X b) := by unfold solM; rw [← sm_mul]; exact sm_congr fun j hj => by rw [e0 j hj]; generalize ab (X a - X b) = d; generalize wt0 r0 g a b j = w; grind
    have k3 : sm (fun j => wt0 r0 g a b j * (X j - c)) n = 1 * sm (fun j => wt0 r0 g a b j * X j) n + (-c) * sm (wt0 r0 g a b) n := by rw [← sm_lin]; exact sm_congr fun j _ => by grind
    rw [k1, k2, k3]
    generalize sm (wt0 r0 g a b) n = s'
    generalize sm (fun j => wt0 r0 g a b j * X j) n = m'
    generalize ab (X a - X b) = d
    grind
  have fin1 : ∀ {v d e : Int}, 0 < ab d → v * d = ab d * e → ab e ≤ ab d → ab v ≤ ab d := fun {v d e} hd h he => by
    have h' : ab v * ab d = ab e * ab d := by rw [← ab_mul, h, ab_mul, show ab (ab d) = ab d by unfold ab; omega, Int.mul_comm]
    rw [Int.eq_of_mul_eq_mul_right (by omega) h']
    exact he
  unfold solB
  rw [hf, Bool.and_eq_true, decide_eq_true_eq, decide_eq_true_eq]
  constructor
  · exact fin1 hm (q1.trans (T (X b))) (by rw [ab_neg]; exact h2)
  · refine fin1 hm (e := sm (fun j => wt0 r0 g a b j * (X j - X a)) n) (q2.trans ?_) h1
    have := T (X a)
    rw [Int.mul_neg] at this
    omega

theorem found_any {n : Nat} {X Y : Nat → Int} (V : VP n X Y) {b : Nat × Nat} (hb : bst n X Y (prs X n) = some b) {r0 : Nat → Int} (hr0 : ∀ j, r0 j = rs (X j) (Y j) (pA X Y b) (pB X Y b) (pD X Y b)) {p : Nat → Bool} (hp : ∀ j, p j = decide (r0 j = 0)) :
    ∃ q ∈ prs X n, p q.1 = true ∧ p q.2 = true ∧ ∃ s, s < 2 ^ (onL p n).length ∧ solB n X (fin (ab (X q.1 - X q.2)) r0 (onL p n) s) (ab (X q.1 - X q.2)) q.1 q.2 = true := by
  have er : r0 = fun j => rs (X j) (Y j) (pA X Y b) (pB X Y b) (pD X Y b) := funext hr0
  have pb := prs_pr (X := X) (Nat.le_refl n) b (bst_mem hb)
  have own := on_own (Y := Y) pb.2.2
  have b1 : b.1 < n := Nat.lt_trans pb.1 pb.2.1
  have two : ∃ i k, i < n ∧ k < n ∧ r0 i = 0 ∧ r0 k = 0 ∧ X i < X k := by
    rcases Int.lt_trichotomy (X b.1) (X b.2) with h | h | h
    · exact ⟨b.1, b.2, b1, pb.2.1, by rw [hr0]; exact own.1, by rw [hr0]; exact own.2, h⟩
    · exact absurd h pb.2.2
    · exact ⟨b.2, b.1, pb.2.1, b1, by rw [hr0]; exact own.2, by rw [hr0]; exact own.1, h⟩
  obtain ⟨i, k, hi, hk, ri, rk, hx, g, hg, h1, h2⟩ := exists_w V.few (fun i hi => (V.ok i hi).1) (by rw [er]; exact all_w V hb) two
  obtain ⟨s, hs, hsb⟩ := bits_any (fun t => g ((onL p n).getD t 0)) (fun _ => hg _) (onL p n).length
  have ik : i ≠ k := fun e => by rw [e] at hx; omega
  have pi : p i = true := by rw [hp, decide_eq_true_eq]; exact ri
  have pk : p k = true := by rw [hp, decide_eq_true_eq]; exact rk
  have d1 : ab (X i - X k) = X k - X i := by unfold ab; omega
  rcases Nat.lt_or_gt_of_ne ik with h | h
  · exact ⟨(i, k), mem_prs h (by omega) hk, pi, pk, s, hs, sol_ok hp (show X i ≠ X k by omega) ri rk hsb (by rw [d1]; exact h1) (by rw [d1]; exact h2)⟩
  · have sw : wt0 r0 g k i = wt0 r0 g i k := by funext j; unfold wt0; simp only [or_comm]
    refine ⟨(k, i), mem_prs h (by omega) hi, pk, pi, s, hs, sol_ok hp (show X k ≠ X i by omega) rk ri hsb ?_ ?_⟩
    · rw [sw, show ab (X k - X i) = X k - X i by unfold ab; omega]; exact h2
    · rw [sw, show ab (X k - X i) = X k - X i by unfold ab; omega]; exact h1
end Go.Proofs.Ytbhndfnfohoidaa
