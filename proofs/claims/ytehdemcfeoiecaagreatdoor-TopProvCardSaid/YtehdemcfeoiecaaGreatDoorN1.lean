import Derived.Test.YtehdemcfeoiecaaGreatDoorK24
import Derived.Test.YtehdemcfeoiecaaGreatDoorL00
namespace Go.Proofs.YtehdemcfeoiecaaGreatDoor
open Go.RowKit Go.Firn Go.Firn.Tb

theorem tabs_map {E : Type} (φ : SL → E) (Ts : List (Int × Tbl SL)) : (tabsOf (fun L => L) Ts).map (mapT φ) = tabsOf φ Ts := by
 unfold tabsOf
 rw [List.map_map]
 refine List.map_congr_left fun x _ => ?_
 simp [mapT]
theorem resQ_ok {D : Type} {R : Rg D} {φ : SL → D} {right : Bool} {Ts : List (Int × Tbl SL)} {q : Key} {T : Tbl D} {W : Int} (h : resQ R φ right Ts q = .ok (T, W)) :
  vTabs Ts = true ∧ ∃ x p pw, qry (wsOf Ts) q = some x ∧ x.2 = W ∧ Tb.runT R (tabsOf φ Ts) x.1 [] = some p ∧ p.getD 0 [] = T ∧ planW (wsOf Ts) x.1 [] = some pw := by
 unfold resQ at h
 split at h
 · rename_i hv
   split at h
   · cases h
   · rename_i x hq
     split at h
     · split at h
       · cases h
       · rename_i T' hT
         cases h
         unfold ansQ at hT
         obtain ⟨p, hp, rfl⟩ := Option.map_eq_some_iff.1 hT
         obtain ⟨pw, hpw, -, -⟩ := qryPlanS hq
         exact ⟨hv, x, p, pw, hq, rfl, hp, rfl, hpw⟩
     · cases h
 · cases h
theorem resQ_run {E : Type} {S : Rg E} {φ : SL → E} {Ts : List (Int × Tbl SL)} {q : Key} {x : List Wd × Int} (hv : vTabs Ts = true) (hq : qry (wsOf Ts) q = some x) :
  (Tb.runT S (tabsOf φ Ts) x.1 [] = none → resQ S φ true Ts q = .error 4) ∧ (∀ p, Tb.runT S (tabsOf φ Ts) x.1 [] = some p → resQ S φ true Ts q = .ok (p.getD 0 [], x.2)) := by
 unfold resQ ansQ
 rw [if_pos hv, hq]
 exact ⟨fun h => by simp [h], fun p h => by simp [h]⟩
theorem red_head {E : Type} {S : Rg E} {φ : SL → E} (p : List (Tbl SL)) : (p.map (red S φ)).getD 0 [] = red S φ (p.getD 0 []) := by
 cases p <;> rfl
theorem num_or {E : Type} {S : Rg E} {φ : SL → E} {Ts : List (Int × Tbl SL)} {q : Key} {T : Tbl SL} {W : Int} (h : RedR RgS S φ GS) (hr : resQ RgS (fun L => L) true Ts q = .ok (T, W)) :
  resQ S φ true Ts q = .error 4 ∨ resQ S φ true Ts q = .ok (red S φ T, W) := by
 obtain ⟨hv, x, p, pw, hq, rfl, hp, rfl, hw⟩ := resQ_ok hr
 have hg := tabs_GI (φ := fun L => L) (G' := GS) hv (fun L h0 => GS.of h0)
 have hP : PI RgS GS [] [] := ⟨rfl, fun i hi => by simp at hi⟩
 have k := red_run h lawS hg x.1 hP (fun T hT => by cases hT) hw hp
 rw [tabs_map, List.map_nil] at k
 obtain ⟨k1, k2⟩ := resQ_run (S := S) (φ := φ) hv hq
 rcases k with k | k
 · exact .inl (k1 k)
 · exact .inr (by rw [k2 _ k, red_head])
theorem num_fit {E : Type} {S : Rg E} {φ : SL → E} {Ts : List (Int × Tbl SL)} {q : Key} {T : Tbl SL} {W : Int} (h : RedR RgS S φ GS) (hfit : ∀ a, GS a → RgS.fits a = true → S.stays (φ a) = true → S.fits (φ a) = true) (hr : resQ RgS (fun L => L) true Ts q = .ok (T, W)) :
  resQ S φ true Ts q = .ok (red S φ T, W) := by
 obtain ⟨hv, x, p, pw, hq, rfl, hp, rfl, hw⟩ := resQ_ok hr
 have hg := tabs_GI (φ := fun L => L) (G' := GS) hv (fun L h0 => GS.of h0)
 have hP : PI RgS GS [] [] := ⟨rfl, fun i hi => by simp at hi⟩
 have k := red_runs h lawS hg hfit x.1 hP hw hp
 rw [tabs_map, List.map_nil] at k
 rw [(resQ_run (S := S) (φ := φ) hv hq).2 _ k, red_head]
theorem red_all {E : Type} {S : Rg E} {φ : SL → E} (h : ∀ x, S.stays x = true) (T : Tbl SL) : red S φ T = mapT φ T := by
 unfold red
 exact List.filter_eq_self.2 fun x _ => h x.2
theorem costs_is {l : Nat → Int} {Ts : List (Int × Tbl SL)} {q : Key} {T : Tbl SL} {W : Int} (hl : Nm8 l 1000) (hr : resQ RgS (fun L => L) true Ts q = .ok (T, W)) : resQ RgK (cosQ l) true Ts q = .ok (mapT (cosQ l) T, W) := by
 rw [num_fit redK (fun a ha h _ => fitK hl a ha h) hr, red_all (fun _ => rfl)]
def kN (l : Nat → Int) (T : Tbl SL) (i : Nat) : Nat := (red RgC (φC l) (T.take i)).length
theorem kN_next {l : Nat → Int} {T : Tbl SL} {i : Nat} {r : List Int × SL} (h : T[i]? = some r) : (φC l r.2 = 0 ∨ ¬ 0 < φC l r.2 → kN l T (i + 1) = kN l T i) ∧
  (0 < φC l r.2 → kN l T (i + 1) = kN l T i + 1 ∧ (red RgC (φC l) T)[kN l T i]? = some (r.1, φC l r.2)) := by
 have e : red RgC (φC l) (T.take (i + 1)) = red RgC (φC l) (T.take i) ++ red RgC (φC l) [r] := by rw [List.take_add_one, h]; exact red_app RgC (φC l) _ _
 have e1 : red RgC (φC l) [r] = if 0 < φC l r.2 then [(r.1, φC l r.2)] else [] := by
  rw [red_cons]
  by_cases h0 : 0 < φC l r.2
  · rw [if_pos h0, if_pos (show RgC.stays (φC l r.2) = true from decide_eq_true h0)]; rfl
  · rw [if_neg h0, if_neg (show ¬ RgC.stays (φC l r.2) = true from fun k => h0 (of_decide_eq_true k))]; rfl
 unfold kN
 constructor
 ·intro k
  rw [e, e1, if_neg (by omega), List.append_nil]
 ·intro k
  rw [e, e1, if_pos k]
  refine ⟨by simp, ?_⟩
  have e2 : red RgC (φC l) T = red RgC (φC l) (T.take (i + 1)) ++ red RgC (φC l) (T.drop (i + 1)) := by rw [← red_app, List.take_append_drop]
  rw [e2, e, e1, if_pos k, List.append_assoc, List.getElem?_append_right (Nat.le_refl _), Nat.sub_self]
  rfl
theorem kN_end {l : Nat → Int} {T : Tbl SL} : kN l T T.length = (red RgC (φC l) T).length := by unfold kN; rw [List.take_length]
end Go.Proofs.YtehdemcfeoiecaaGreatDoor
