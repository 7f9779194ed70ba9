/- The plain law of the count of chains: those that end with each one are as many in all as those that begin with each one. -/
import Derived.Test.YtjokheeegcilhaaDoorCore
namespace Go.Proofs.YtjokheeegcilhaaDoor

/-- A sum. -/
def sg (f : Nat → Int) : Nat → Int
  | 0 => 0
  | n + 1 => sg f n + f n
theorem sg_congr {f g : Nat → Int} : ∀ {n : Nat}, (∀ i, i < n → f i = g i) → sg f n = sg g n
  | 0, _ => rfl
  | n + 1, h => by
    show sg f n + f n = sg g n + g n
    rw [sg_congr fun i hi => h i (by omega), h n (by omega)]
theorem sg_add (f g : Nat → Int) : ∀ n, sg (fun i => f i + g i) n = sg f n + sg g n
  | 0 => rfl
  | n + 1 => by
    show sg (fun i => f i + g i) n + (f n + g n) = (sg f n + f n) + (sg g n + g n)
    rw [sg_add f g n]; omega
theorem sg_mul (c : Int) (f : Nat → Int) : ∀ n, sg (fun i => c * f i) n = c * sg f n
  | 0 => by simp [sg]
  | n + 1 => by
    show sg (fun i => c * f i) n + c * f n = c * (sg f n + f n)
    rw [sg_mul c f n, Int.mul_add]
theorem sg_zero : ∀ n, sg (fun _ => 0) n = 0
  | 0 => rfl
  | n + 1 => by show sg (fun _ => 0) n + 0 = 0; rw [sg_zero n]; rfl
theorem sg_swap (h : Nat → Nat → Int) (n : Nat) : ∀ m, sg (fun a => sg (fun b => h a b) n) m = sg (fun b => sg (fun a => h a b) m) n
  | 0 => (sg_zero n).symm
  | m + 1 => by
    show sg (fun a => sg (fun b => h a b) n) m + sg (fun b => h m b) n = sg (fun b => sg (fun a => h a b) m + h m b) n
    rw [sg_swap h n m, sg_add]
theorem sg_bd {f : Nat → Int} {B : Int} : ∀ {k : Nat}, (∀ i, i < k → 0 ≤ f i ∧ f i ≤ B) → 0 ≤ sg f k ∧ sg f k ≤ B * k
  | 0, _ => by simp [sg]
  | k + 1, h => by
    have a := sg_bd (f := f) (B := B) (k := k) fun i hi => h i (by omega)
    have b := h k (by omega)
    show 0 ≤ sg f k + f k ∧ sg f k + f k ≤ B * ((k + 1 : Nat) : Int)
    rw [show ((k + 1 : Nat) : Int) = (k : Int) + 1 from rfl, Int.mul_add, Int.mul_one]
    omega

/-- How many chains begin with one (d: as long as they may be). -/
def wF (rel : Nat → Nat → Bool) (n : Nat) : Nat → Nat → Int
  | 0, _ => 0
  | d + 1, a => 1 + sg (fun b => if rel a b then wF rel n d b else 0) n
theorem wF_bd (rel : Nat → Nat → Bool) {n : Nat} (hn : n ≤ 14) : ∀ (d a : Nat), 0 ≤ wF rel n d a ∧ wF rel n d a ≤ 15 ^ d
  | 0, _ => by constructor <;> simp [wF]
  | d + 1, a => by
    have t := sg_bd (f := fun b => if rel a b then wF rel n d b else 0) (B := 15 ^ d) (k := n) fun i _ => by
      have := wF_bd rel hn d i
      split
      · exact this
      · exact ⟨Int.le_refl 0, by omega⟩
    have p : (0 : Int) < 15 ^ d := Int.pow_pos (by decide)
    have m : (15 : Int) ^ d * (n : Int) ≤ 15 ^ d * 14 := Int.mul_le_mul_of_nonneg_left (by omega) (by omega)
    have e : (15 : Int) ^ (d + 1) = 15 ^ d * 15 := rfl
    show 0 ≤ 1 + sg _ n ∧ 1 + sg _ n ≤ _
    rw [e]
    omega
/-- Where heights go down, the count stands from the height on. -/
theorem wF_stable {rel : Nat → Nat → Bool} {n : Nat} {h : Nat → Nat} (h1 : ∀ a, a < n → 1 ≤ h a) (hr : ∀ a b, a < n → b < n → rel a b = true → h b < h a) :
    ∀ (d d' a : Nat), a < n → h a ≤ d → h a ≤ d' → wF rel n d a = wF rel n d' a
  | 0, _, a, ha, hd, _ => by have := h1 a ha; omega
  | _, 0, a, ha, _, hd => by have := h1 a ha; omega
  | d + 1, d' + 1, a, ha, hd, hd' => by
    show 1 + sg _ n = 1 + sg _ n
    congr 1
    refine sg_congr fun b hb => ?_
    by_cases t : rel a b = true
    · rw [if_pos t, if_pos t]
      have := hr a b ha hb t
      exact wF_stable h1 hr d d' b hb (by omega) (by omega)
    · rw [if_neg t, if_neg t]
/-- One more step. -/
theorem wF_eq {rel : Nat → Nat → Bool} {n N : Nat} {h : Nat → Nat} (h1 : ∀ a, a < n → 1 ≤ h a) (hr : ∀ a b, a < n → b < n → rel a b = true → h b < h a) (hN : ∀ a, a < n → h a ≤ N) {a : Nat} (ha : a < n) :
    wF rel n N a = 1 + sg (fun b => if rel a b then wF rel n N b else 0) n := by
  rw [wF_stable h1 hr N (N + 1) a ha (hN a ha) (Nat.le_succ_of_le (hN a ha))]
  rfl
/-- AS MANY END AS BEGIN. -/
theorem ends_begins {rel : Nat → Nat → Bool} {n : Nat} {W E : Nat → Int} (hW : ∀ a, a < n → W a = 1 + sg (fun b => if rel a b then W b else 0) n) (hE : ∀ i, i < n → E i = 1 + sg (fun k => if rel k i then E k else 0) n) :
    sg E n = sg W n := by
  have a : sg E n = sg (fun i => E i * W i) n - sg (fun i => sg (fun b => if rel i b then E i * W b else 0) n) n := by
    have e : sg (fun i => E i * W i) n = sg (fun i => E i + sg (fun b => if rel i b then E i * W b else 0) n) n := sg_congr fun i hi => by
      have e2 : sg (fun b => if rel i b then E i * W b else 0) n = E i * sg (fun b => if rel i b then W b else 0) n := by
        rw [← sg_mul]
        exact sg_congr fun b _ => by split <;> simp
      have e3 : E i * W i = E i * 1 + E i * sg (fun b => if rel i b then W b else 0) n := by rw [← Int.mul_add, ← hW i hi]
      show E i * W i = E i + _
      rw [e2, e3, Int.mul_one]
    rw [e, sg_add]; omega
  have b : sg W n = sg (fun i => E i * W i) n - sg (fun b => sg (fun i => if rel i b then E i * W b else 0) n) n := by
    have e : sg (fun i => E i * W i) n = sg (fun b => W b + sg (fun i => if rel i b then E i * W b else 0) n) n := sg_congr fun b hb => by
      have e2 : sg (fun i => if rel i b then E i * W b else 0) n = W b * sg (fun i => if rel i b then E i else 0) n := by
        rw [← sg_mul]
        exact sg_congr fun i _ => by split <;> simp [Int.mul_comm]
      have e3 : E b * W b = W b * 1 + W b * sg (fun i => if rel i b then E i else 0) n := by rw [← Int.mul_add, ← hE b hb, Int.mul_comm]
      show E b * W b = W b + _
      rw [e2, e3, Int.mul_one]
    rw [e, sg_add]; omega
  rw [a, b, sg_swap]

/-- The reference's state within a round: what is right, and that nothing is too great. -/
structure Rnd (rel : Nat → Nat → Bool) (n N : Nat) (h : Nat → Nat) (r k : Nat) (f : Nat → Int) : Prop where
  bd : ∀ a, a < n → 0 ≤ f a ∧ f a ≤ wF rel n N a
  old : ∀ a, a < n → h a ≤ r → f a = wF rel n N a
  new : ∀ a, a < n → a < k → h a ≤ r + 1 → f a = wF rel n N a
theorem Rnd.start (rel : Nat → Nat → Bool) {n N : Nat} (hn : n ≤ 14) {h : Nat → Nat} (h1 : ∀ a, a < n → 1 ≤ h a) : Rnd rel n N h 0 0 fun _ => 0 :=
  ⟨fun a _ => ⟨Int.le_refl 0, (wF_bd rel hn N a).1⟩, fun a ha hh => by have := h1 a ha; omega, fun a _ hk => by omega⟩
theorem Rnd.next {rel : Nat → Nat → Bool} {n N : Nat} {h : Nat → Nat} {r : Nat} {f : Nat → Int} (H : Rnd rel n N h r n f) : Rnd rel n N h (r + 1) 0 f :=
  ⟨H.bd, fun a ha hh => H.new a ha ha hh, fun a _ hk => by omega⟩
/-- The sum so far, while one is added up anew (f a stands for nothing then, but that a is not behind itself). -/
def stp (rel : Nat → Nat → Bool) (f : Nat → Int) (a b : Nat) : Int := 1 + sg (fun x => if rel a x then f x else 0) b
theorem stp_succ (rel : Nat → Nat → Bool) (f : Nat → Int) (a b : Nat) : stp rel f a (b + 1) = stp rel f a b + if rel a b then f b else 0 := by
  show 1 + (sg (fun x => if rel a x then f x else 0) b + (if rel a b then f b else 0)) = 1 + sg (fun x => if rel a x then f x else 0) b + (if rel a b then f b else 0)
  omega
theorem stp_bd {rel : Nat → Nat → Bool} {n N : Nat} (hn : n ≤ 14) {h : Nat → Nat} {r k : Nat} {f : Nat → Int} (H : Rnd rel n N h r k f) {a b : Nat} (hb : b ≤ n) : 1 ≤ stp rel f a b ∧ stp rel f a b ≤ 1 + 15 ^ N * 14 := by
  have t := sg_bd (f := fun x => if rel a x then f x else 0) (B := 15 ^ N) (k := b) fun i hi => by
    have := H.bd i (by omega)
    have w := wF_bd rel hn N i
    split
    · omega
    · omega
  have p : (0 : Int) < 15 ^ N := Int.pow_pos (by decide)
  have m : (15 : Int) ^ N * (b : Int) ≤ 15 ^ N * 14 := Int.mul_le_mul_of_nonneg_left (by omega) (by omega)
  unfold stp
  omega
theorem sg_le {f g : Nat → Int} : ∀ {n : Nat}, (∀ i, i < n → f i ≤ g i) → sg f n ≤ sg g n
  | 0, _ => Int.le_refl _
  | n + 1, h => by
    have a := sg_le (f := f) (g := g) (n := n) fun i hi => h i (by omega)
    have b := h n (by omega)
    show sg f n + f n ≤ sg g n + g n
    omega
theorem Rnd.step {rel : Nat → Nat → Bool} {n N : Nat} {h : Nat → Nat} (h1 : ∀ a, a < n → 1 ≤ h a) (hr : ∀ a b, a < n → b < n → rel a b = true → h b < h a) (hN : ∀ a, a < n → h a ≤ N)
    {r k : Nat} {f : Nat → Int} (H : Rnd rel n N h r k f) (hk : k < n) (hn : n ≤ 14) : Rnd rel n N h r (k + 1) fun x => if x = k then stp rel f k n else f x := by
  have e := wF_eq h1 hr hN hk
  have top : stp rel f k n ≤ wF rel n N k := by
    rw [e]
    unfold stp
    have := sg_le (f := fun x => if rel k x then f x else 0) (g := fun x => if rel k x then wF rel n N x else 0) (n := n) fun i hi => by
      have := H.bd i hi
      split
      · exact this.2
      · exact Int.le_refl 0
    omega
  have same : h k ≤ r + 1 → stp rel f k n = wF rel n N k := fun hh => by
    rw [e]
    unfold stp
    congr 1
    refine sg_congr fun b hb => ?_
    by_cases t : rel k b = true
    · rw [if_pos t, if_pos t]
      have := hr k b hk hb t
      exact H.old b hb (by omega)
    · rw [if_neg t, if_neg t]
  have lo := (stp_bd hn H (a := k) (Nat.le_refl n)).1
  refine ⟨fun a ha => ?_, fun a ha hh => ?_, fun a ha hk2 hh => ?_⟩ <;> by_cases t : a = k
  · subst t; rw [if_pos rfl]; exact ⟨by omega, top⟩
  · rw [if_neg t]; exact H.bd a ha
  · subst t; rw [if_pos rfl]; exact same (by omega)
  · rw [if_neg t]; exact H.old a ha hh
  · subst t; rw [if_pos rfl]; exact same hh
  · rw [if_neg t]; exact H.new a ha (by omega) hh

end Go.Proofs.YtjokheeegcilhaaDoor
