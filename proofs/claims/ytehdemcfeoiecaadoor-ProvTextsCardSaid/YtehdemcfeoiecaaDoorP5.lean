/- How a product is put into a sum, and two products' tokens are mixed, as the reference does it. -/
import Derived.Test.YtehdemcfeoiecaaDoorP4
namespace Go.Proofs.YtehdemcfeoiecaaDoor
open Go.Firn

theorem put_here {k : Key} {n : Int} : ∀ {at_ : Nat} {L : SL} {x : Key × Int}, (∀ i y, i < at_ → L[i]? = some y → y.1 < k) → L[at_]? = some x → x.1 = k → putL k n L = L.set at_ (k, x.2 + n)
  | 0, y :: r, x, _, hx, e => by
    obtain rfl : y = x := by simpa using hx
    unfold putL
    rw [if_neg (show ¬ y.1 < k by rw [e]; exact key_irr k), if_pos e]
    rfl
  | at_ + 1, y :: r, x, h, hx, e => by
    unfold putL
    rw [if_pos (h 0 y (by omega) rfl), put_here (at_ := at_) (x := x) (fun i z hi hz => h (i + 1) z (by omega) (by simpa using hz)) (by simpa using hx) e]
    rfl
  | 0, [], x, _, hx, _ => by simp at hx
  | _ + 1, [], x, _, hx, _ => by simp at hx
theorem put_there {k : Key} {n : Int} : ∀ {at_ : Nat} {L : SL}, (∀ i y, i < at_ → L[i]? = some y → y.1 < k) → at_ ≤ L.length → (∀ x, L[at_]? = some x → ¬ x.1 < k ∧ x.1 ≠ k) → putL k n L = L.take at_ ++ (k, n) :: L.drop at_
  | 0, [], _, _, _ => rfl
  | 0, y :: r, _, _, hx => by
    have := hx y rfl
    unfold putL
    rw [if_neg this.1, if_neg this.2]
    rfl
  | at_ + 1, y :: r, h, hl, hx => by
    unfold putL
    rw [if_pos (h 0 y (by omega) rfl), put_there (at_ := at_) (fun i z hi hz => h (i + 1) z (by omega) (by simpa using hz)) (by simpa using hl) (fun x hx' => hx x (by simpa using hx'))]
    rfl
  | _ + 1, [], _, hl, _ => by simp at hl

/-- Two texts of tokens merged. -/
def mgK (a b : Key) : Key := List.merge a b (fun x y => decide (x ≤ y))
theorem mgK_nil (b : Key) : mgK [] b = b := by unfold mgK; cases b <;> simp
theorem mgK_nil' (a : Key) : mgK a [] = a := by unfold mgK; cases a <;> simp
theorem mgK_cons (x y : UInt8) (a b : Key) : mgK (x :: a) (y :: b) = if x ≤ y then x :: mgK a (y :: b) else y :: mgK (x :: a) b := by
  unfold mgK
  rw [List.cons_merge_cons]
  by_cases h : x ≤ y
  · simp [h]
  · simp [h]
theorem mgK_is {a b : Key} (ha : srtK a) (hb : srtK b) : mgK a b = mx a b := by
  refine srt_uniq ((List.merge_perm_append _).trans (mx_perm a b).symm) ?_ (mx_srt a b)
  have := List.pairwise_merge (le := fun x y : UInt8 => decide (x ≤ y)) u8tr u8tot a b (ha.imp fun h => by simpa using h) (hb.imp fun h => by simpa using h)
  exact this.imp fun h => by simpa using h

end Go.Proofs.YtehdemcfeoiecaaDoor
