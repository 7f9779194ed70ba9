/- Contracts of chapter 1: where, and how much, two clocks differ most, by the reference. -/
import Derived.Test.YtdlbgelidcfmiaaGreatDoorW29
namespace Go.Proofs.YtdlbgelidcfmiaaGreatDoor
open Go.RowKit Go.Firn

/-- A place, a ratio and an error. -/
def RetIRE (x p q err : Int) (w : World) (e : Ending) (w' : World) : Prop := e = .returned (.tuple #[.int .i64 x, .agg #[.int .i64 p, .int .i64 q], .int .i64 err]) ∧ Gr w w'

def RetRf (p q : Int → Int) (F G : Int) (w : World) (e : Ending) (w' : World) : Prop := ∃ m, RfM p q F (G + 1) m ∧ RetIRE m (p m) (q m) 0 w e w'

theorem ap_bd {n n' : Nat} {L T L' T' : Nat → Int} {x : Int} (hv : vK n L T = true) (hv' : vK n' L' T' = true) (hx : -200000 ≤ x ∧ x ≤ 200000) :
    (0 ≤ apN n L T n' L' T' x ∧ apN n L T n' L' T' x ≤ 4611686018427387904) ∧ (0 < apD n L T n' L' T' x ∧ apD n L T n' L' T' x ≤ 4611686018427387904) := by
  have b1 := AN_bd (x := x) hv hx
  have b2 := AD_bd x hv
  have b3 := AN_bd (x := x) hv' hx
  have b4 := AD_bd x hv'
  have m1 := mul_bd (a := AN n L T x) (b := AD n' L' T' x) (A := 40000000000) (B := 100000) (by omega) (by omega) (by omega) (by omega)
  have m2 := mul_bd (a := AN n' L' T' x) (b := AD n L T x) (A := 40000000000) (B := 100000) (by omega) (by omega) (by omega) (by omega)
  have m3 := mul_bd (a := AD n L T x) (b := AD n' L' T' x) (A := 100000) (B := 100000) (by omega) (by omega) (by omega) (by omega)
  have p1 := apN_nonneg (n := n) (L := L) (T := T) (n' := n') (L' := L') (T' := T') x
  have p2 := apD_pos hv hv' x
  have p3 := rD_le (max (apM n L T n' L' T' x) (-apM n L T n' L' T' x)) (apE_pos hv hv' x)
  have p4 := rN_le (n := max (apM n L T n' L' T' x) (-apM n L T n' L' T' x)) (d := apE n L T n' L' T' x) (by omega)
  have e1 : apM n L T n' L' T' x = AN n L T x * AD n' L' T' x - AN n' L' T' x * AD n L T x := rfl
  have e2 : apE n L T n' L' T' x = AD n L T x * AD n' L' T' x := rfl
  have e3 : apN n L T n' L' T' x = rN (max (apM n L T n' L' T' x) (-apM n L T n' L' T' x)) (apE n L T n' L' T' x) := rfl
  have e4 : apD n L T n' L' T' x = rD (max (apM n L T n' L' T' x) (-apM n L T n' L' T' x)) (apE n L T n' L' T' x) := rfl
  rw [← e3] at p4
  rw [← e4] at p3
  omega

end Go.Proofs.YtdlbgelidcfmiaaGreatDoor
