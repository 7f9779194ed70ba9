/- Contracts of chapter 1: the least and the greatest speed. -/
import Derived.Test.YtdlbgelidcfmiaaGreatDoorW23
namespace Go.Proofs.YtdlbgelidcfmiaaGreatDoor
open Go.RowKit Go.Firn

/-- The speed of line i, in lowest terms. -/
def sF (L T : Nat → Int) (i : Nat) : Int := rN (aD T i) (aD L i)
def sG (L T : Nat → Int) (i : Nat) : Int := rD (aD T i) (aD L i)

theorem info37 : (Tryz.prog.info? 37).map (fun i => (i.zero, i.size, i.bytes)) = some (some (.agg #[.int .i64 0, .int .i64 0]), 2, 16) := by kernel_rfl

/-- Two ratios and an error. -/
def RetRRE (p q r s err : Int) (w : World) (e : Ending) (w' : World) : Prop :=
  e = .returned (.tuple #[.agg #[.int .i64 p, .int .i64 q], .agg #[.int .i64 r, .int .i64 s], .int .i64 err]) ∧ Gr w w'

theorem sFG_bd {n : Nat} {L T : Nat → Int} (hv : vK n L T = true) {i : Nat} (hi : i + 1 < n) : (0 < sF L T i ∧ sF L T i ≤ 100000) ∧ (0 < sG L T i ∧ sG L T i ≤ 100000) := by
  obtain ⟨_, _, hB, hs⟩ := vK_true.1 hv
  have b0 := hB i (by omega)
  have b1 := hB (i + 1) hi
  have s := hs i hi
  have dL : 0 < aD L i ∧ aD L i ≤ 100000 := by unfold aD; omega
  have dT : 0 < aD T i ∧ aD T i ≤ 100000 := by unfold aD; omega
  have m := red_mul (aD T i) (aD L i)
  have p1 := rD_pos (aD T i) dL.1
  have p2 := rD_le (aD T i) dL.1
  have p3 := rN_nonneg (n := aD T i) (d := aD L i) (by omega)
  have p4 := rN_le (n := aD T i) (d := aD L i) (by omega)
  have p5 : rN (aD T i) (aD L i) ≠ 0 := by
    intro h
    rw [h, Int.zero_mul] at m
    have := Int.mul_pos dT.1 p1
    omega
  unfold sF sG
  omega

theorem speed_at {n : Nat} {L T : Nat → Int} (hv : vK n L T = true) {k : Nat} (h1 : 1 ≤ k) (hk : k < n) (w : World) :
    Calls Tryz.prog 28 #[.agg #[.int .i64 (L (k - 1)), .int .i64 (T (k - 1)), .int .i64 (L k), .int .i64 (T k)]] w (RetR (sF L T (k - 1)) (sG L T (k - 1)) w) := by
  obtain ⟨_, _, hB, hs⟩ := vK_true.1 hv
  have b0 := hB (k - 1) (by omega)
  have b1 := hB k hk
  have s := hs (k - 1) (by omega)
  have e : k - 1 + 1 = k := by omega
  rw [e] at s
  have h := speed_any (L (k - 1)) (T (k - 1)) (L k) (T k) w (by omega) (by omega) (by omega) (by omega) s.1
  unfold sF sG aD
  rw [e]
  exact h
end Go.Proofs.YtdlbgelidcfmiaaGreatDoor
