/- All witnesses, in their order, told one by one. -/
import Derived.Test.YtbhndfnfohoidaaP3
namespace Go.Proofs.Ytbhndfnfohoidaa

def row2 (X : Nat → Int) (a : Nat) : Nat → List (List Nat)
  | 0 => []
  | b + 1 => row2 X a b ++ (if a < b ∧ X a = X b then [[a, b]] else [])
def pr2 (X : Nat → Int) (n : Nat) : Nat → List (List Nat)
  | 0 => []
  | a + 1 => pr2 X n a ++ row2 X a n
def row3 (X : Nat → Int) (a b : Nat) : Nat → List (List Nat)
  | 0 => []
  | c + 1 => row3 X a b c ++ (if X a < X b ∧ X b < X c then [[a, b, c]] else [])
def pl3 (X : Nat → Int) (n a : Nat) : Nat → List (List Nat)
  | 0 => []
  | b + 1 => pl3 X n a b ++ row3 X a b n
def cub (X : Nat → Int) (n : Nat) : Nat → List (List Nat)
  | 0 => []
  | a + 1 => cub X n a ++ pl3 X n a n
/-- All witnesses of n points: those of two, and then those of three, index by index. -/
def wits (n : Nat) (X : Nat → Int) : List (List Nat) := pr2 X n n ++ cub X n n

theorem row2_low (X : Nat → Int) (a : Nat) : ∀ b, b ≤ a + 1 → row2 X a b = []
  | 0, _ => rfl
  | b + 1, h => by rw [row2, row2_low X a b (by omega), if_neg (by omega)]; rfl

/-- A list of numbers, read by index. -/
def nf (L : List Nat) (i : Nat) : Int := ((L.getD i 0 : Nat) : Int)

end Go.Proofs.Ytbhndfnfohoidaa
