/- Contracts of chapter 9 at lists: Value and Cost; the plain law of ProvNumbers. -/
import Derived.Test.YtehdemcfeoiecaaDoorV12
import Derived.Test.YtehdemcfeoiecaaDoorP4
namespace Go.Proofs.YtehdemcfeoiecaaDoor
open Go.RowKit Go.Firn Go.Shelf Go.Maps Go.WideMaps

/-- The value and the cost of a sum. -/
def valL (l : Nat → Int) (L : SL) : Int := tot (wK l) L
def cstL (l : Nat → Int) (L : SL) : Int := if L.length = 0 then 0 else mnR (csP l (sx L)) L.length
def erC (L : SL) : Int := if L.length = 0 then 5 else 0
/-- The lesser one of two costs. -/
def lst (c d : Int) (m n : Nat) : Int := if m = 0 then d else if n = 0 then c else min c d

theorem Value_list (a a' : Option Addr) (c m c' : Nat) (L : SL) (l : Nat → Int) (w : World) (hL : vL L = true) (hm : nmB l m 10 = true) (hr : RdS w a L.length (sx L) (sy L)) (hl : RdI w a' m l) :
    Calls Tryd.prog 11 #[.slice a L.length c, .slice a' m c'] w (RetNE (valL l L) 0 w) := by
  have h8 := (nmB_at hm).1
  have := Value_any a a' L.length c m c' (sx L) (sy L) l w (vL_len hL) (vL_size hL) (by omega) hr hl
  have e1 : VlN (sx L) (sy L) L.length l m = valL l L := by
    unfold VlN
    rw [if_pos (show vS (sx L) (sy L) L.length = true from hL), if_pos hm, vlS_tot, ofS_sx]
    rfl
  have e2 : VlE (sx L) (sy L) L.length l m = 0 := by
    unfold VlE
    rw [if_pos (show vS (sx L) (sy L) L.length = true from hL), if_pos hm]
  rw [e1, e2] at this
  exact this
theorem Cost_list (a a' : Option Addr) (c m c' : Nat) (L : SL) (l : Nat → Int) (w : World) (hL : vL L = true) (hm : nmB l m 1000 = true) (hr : RdS w a L.length (sx L) (sy L)) (hl : RdI w a' m l) :
    Calls Tryd.prog 13 #[.slice a L.length c, .slice a' m c'] w (RetNE (cstL l L) (erC L) w) := by
  have h8 := (nmB_at hm).1
  have := Cost_any a a' L.length c m c' (sx L) (sy L) l w (vL_len hL) (vL_size hL) (by omega) hr hl
  have e1 : CsN (sx L) (sy L) L.length l m = cstL l L := by
    unfold CsN
    rw [if_pos (show vS (sx L) (sy L) L.length = true from hL), if_pos hm]
    rfl
  have e2 : CsE (sx L) (sy L) L.length l m = erC L := by
    unfold CsE
    rw [if_pos (show vS (sx L) (sy L) L.length = true from hL), if_pos hm]
    rfl
  rw [e1, e2] at this
  exact this
theorem cst_is (l : Nat → Int) {L : SL} (h : L.length ≠ 0) : isMn (cK l) L (cstL l L) := by
  have := cost_is l (sx L) (sy L) (n := L.length) (by omega)
  rw [ofS_sx] at this
  unfold cstL
  rw [if_neg h]
  exact this
theorem nil_len {L : SL} : L.length = 0 ↔ L = [] := List.length_eq_zero_iff
theorem opE_ok {b : Bool} {x y : SL} (h : opE b x y = 0) : overL (opL b x y) = false := by
  rcases opE_is b x y with k | k
  · exact k.2
  · rw [k.1] at h; exact absurd h (by decide)
theorem val_plus (l : Nat → Int) {s t : SL} (h : opE false s t = 0) : valL l (opA false s t) = valL l s + valL l t := by
  rw [opA_ok (opE_ok h)]
  exact value_plus l s t
theorem val_times (l : Nat → Int) {s t : SL} (h : opE true s t = 0) : valL l (opA true s t) = valL l s * valL l t := by
  rw [opA_ok (opE_ok h)]
  exact value_times l s t
theorem len_plus {s t : SL} (ht : vL t = true) (h : opE false s t = 0) : (opA false s t).length = 0 ↔ s.length = 0 ∧ t.length = 0 := by
  rw [opA_ok (opE_ok h), nil_len, nil_len, nil_len]
  exact plus_empty (vL_iff.1 ht).1.2.1
theorem len_times {s t : SL} (hs : vL s = true) (ht : vL t = true) (h : opE true s t = 0) : (opA true s t).length = 0 ↔ s.length = 0 ∨ t.length = 0 := by
  rw [opA_ok (opE_ok h), nil_len, nil_len, nil_len]
  exact times_empty (vL_iff.1 hs).1.2.1 (vL_iff.1 ht).1.2.1
theorem cst_plus (l : Nat → Int) {s t : SL} (hs : vL s = true) (ht : vL t = true) (h : opE false s t = 0) (hne : (opA false s t).length ≠ 0) : cstL l (opA false s t) = lst (cstL l s) (cstL l t) s.length t.length := by
  have kt := (vL_iff.1 ht).1
  have e := opA_ok (opE_ok h)
  unfold lst
  by_cases h1 : s.length = 0
  · rw [if_pos h1, e]
    have : s = [] := nil_len.1 h1
    subst this
    rw [show opL false [] t = plusL [] t from rfl, plus_nil_left kt.1 kt.2.1]
  · rw [if_neg h1]
    by_cases h2 : t.length = 0
    · rw [if_pos h2, e]
      have : t = [] := nil_len.1 h2
      subst this
      rfl
    · rw [if_neg h2]
      have a := cst_is l hne
      have b := isMn.plus kt.2.1 (cst_is l h1) (cst_is l h2)
      rw [e] at a ⊢
      exact a.uniq b
theorem cst_times (l : Nat → Int) {s t : SL} (hs : vL s = true) (ht : vL t = true) (h : opE true s t = 0) (h1 : s.length ≠ 0) (h2 : t.length ≠ 0) : cstL l (opA true s t) = cstL l s + cstL l t := by
  have e := opA_ok (opE_ok h)
  have hne : (opA true s t).length ≠ 0 := fun k => by rcases (len_times hs ht h).1 k with k | k <;> contradiction
  have a := cst_is l hne
  have b := isMn.times (vL_iff.1 hs).1.2.1 (vL_iff.1 ht).1.2.1 (cst_is l h1) (cst_is l h2)
  rw [e] at a ⊢
  exact a.uniq b
theorem val_bd {l : Nat → Int} {m : Nat} {L : SL} (hL : vL L = true) (hm : nmB l m 10 = true) : 0 ≤ valL l L ∧ valL l L ≤ 4000000000000000000 := by
  have := vlS_bd (nmB_at hm).2 hL L.length (Nat.le_refl _)
  rw [vlS_tot, ofS_sx] at this
  have h40 := (vL_ok hL).le
  unfold valL
  omega
theorem cst_bd {l : Nat → Int} {m : Nat} {L : SL} (hL : vL L = true) (hm : nmB l m 1000 = true) : 0 ≤ cstL l L ∧ cstL l L ≤ 12000 := by
  unfold cstL
  by_cases h : L.length = 0
  · rw [if_pos h]; omega
  · rw [if_neg h]
    obtain ⟨⟨i, hi, e⟩, _⟩ := mnR_is (csP l (sx L)) L.length (by omega)
    have a := (vS_at (f := sx L) (g := sy L) (n := L.length) hL).2 i hi
    have b := csm_bd (nmB_at hm).2 a.1 (sx L i).size (Nat.le_refl _)
    have c := (isTk_at a.1).1
    rw [← e]
    unfold csP
    omega

theorem least_any (c d : Int) (m n : Nat) (w : World) : Calls Tryd.prog 24 #[.int .i64 c, .int .i64 d, .int .i64 m, .int .i64 n] w fun e w' => e = .returned (.int .i64 (lst c d m n)) ∧ w = w' := by
  go_enter Tryd.func24, Tryd.ntmps24
  by_cases h1 : m = 0
  · subst h1
    go_wp2
    go_ret
    exact ⟨rfl, rfl⟩
  · have i1 : decide ((m : Int) = 0) = false := by simp; omega
    by_cases h2 : n = 0
    · subst h2
      go_wp2
      go_ret
      exact ⟨by rw [lst, if_neg h1, if_pos rfl]; rfl, rfl⟩
    · have i2 : decide ((n : Int) = 0) = false := by simp; omega
      go_wp2
      go_ret
      exact ⟨by rw [lst, if_neg h1, if_neg h2]; rfl, rfl⟩
end Go.Proofs.YtehdemcfeoiecaaDoor
