import Derived.Test.YtehdemcfeoiecaaGreatDoorN1
import Derived.Test.YtehdemcfeoiecaaGreatDoorL02
namespace Go.Firn.Tb
theorem runT_gath {D : Type} {R : Rg D} {t1 t2 : List (Tbl D)} (h : ∀ n, gath R (t1.getD n []) = gath R (t2.getD n [])) : ∀ (l : List Wd) (p : List (Tbl D)), runT R t1 l p = runT R t2 l p
 | [], _ => rfl
 | w :: r, p => by
  have e : gath R (rowsW R.mul t1 w p) = gath R (rowsW R.mul t2 w p) := by
   cases w with
   | put n => exact h n
   | _ => rfl
  unfold runT
  rw [e]
  split
  ·exact runT_gath h r _
  ·rfl
end Go.Firn.Tb
namespace Go.Proofs.YtehdemcfeoiecaaGreatDoor
open Go.RowKit Go.Firn Go.Firn.Tb
def woT (c : UInt8) (Ts : List (Int × Tbl SL)) : List (Int × Tbl SL) := Ts.map fun x => (x.1, red RgS (sprL c) x.2)
theorem wo_ws {c : UInt8} {Ts : List (Int × Tbl SL)} : wsOf (woT c Ts) = wsOf Ts := by
 unfold wsOf woT
 rw [List.map_map]
 rfl
theorem wo_srt {c : UInt8} {T : Tbl SL} (h : SrT T) : SrT (red RgS (sprL c) T) := (map_srt h).filter _
theorem wo_tab {c : UInt8} {W : Int} {T : Tbl SL} (h : vTab W T = true) : vTab W (red RgS (sprL c) T) = true := by
 obtain ⟨h1, h2⟩ := vTab_TG h
 refine vTab_of ⟨h1.w1, wo_srt h1.srt, fun x hx => ?_, Nat.le_trans (List.length_filter_le _ _) (by unfold mapT; rw [List.length_map]; exact h1.len), fun x hx => ?_⟩ fun x hx => ?_
 all_goals obtain ⟨y, hy, rfl, hs⟩ := red_mem hx
 ·exact h1.wd y hy
 ·exact ⟨spr_vL (h1.gd y hy).1, of_decide_eq_true hs⟩
 ·exact h2 y hy
theorem wo_valid {c : UInt8} {Ts : List (Int × Tbl SL)} (h : vTabs Ts = true) : vTabs (woT c Ts) = true := by
 obtain ⟨h1, h2⟩ := vTabs_iff.1 h
 refine vTabs_iff.2 ⟨fun x hx => ?_, by unfold woT; rw [List.length_map]; exact h2⟩
 obtain ⟨y, hy, rfl⟩ := List.mem_map.1 hx
 exact wo_tab (h1 y hy)
theorem wo_gath {c : UInt8} {T : Tbl SL} {W : Int} (h : vTab W T = true) : gath RgS (mapT (sprL c) T) = gath RgS (red RgS (sprL c) T) := by
 have h1 := (vTab_TG h).1
 rw [put_gath (redP c) h1.srt (fun x hx => GS.of (h1.gd x hx)), gath_id RgS h1.srt, filter_stays fun x hx => decide_eq_true (h1.gd x hx).2, gath_id RgS (wo_srt h1.srt), red_self]
theorem wo_answer {c : UInt8} {Ts : List (Int × Tbl SL)} {q : Key} {T : Tbl SL} {W : Int} (hr : resQ RgS (fun L => L) true Ts q = .ok (T, W)) : resQ RgS (fun L => L) true (woT c Ts) q = .ok (red RgS (sprL c) T, W) := by
 obtain ⟨hv, x, p, pw, hq, rfl, hp, rfl, hw⟩ := resQ_ok hr
 have hg := tabs_GI (φ := fun L => L) (G' := GS) hv (fun L h0 => GS.of h0)
 have hP : PI RgS GS [] [] := ⟨rfl, fun i hi => by simp at hi⟩
 have k := red_runs (redP c) lawS hg (fun a ha h _ => fitP c a ha h) x.1 hP hw hp
 rw [tabs_map, List.map_nil, runT_gath (t2 := tabsOf (fun L => L) (woT c Ts)) (fun n => ?_)] at k
 ·rw [(resQ_run (S := RgS) (φ := fun L => L) (wo_valid hv) (by rw [wo_ws]; exact hq)).2 _ k, red_head]
 ·by_cases hn : n < Ts.length
  ·obtain ⟨e1, -⟩ := tabsOf_at (φ := sprL c) (List.getElem?_eq_getElem hn)
   obtain ⟨e2, -⟩ := tabsOf_at (φ := fun L => L) (Ts := woT c Ts) (k := n) (WT := (Ts[n].1, red RgS (sprL c) Ts[n].2)) (by unfold woT; rw [List.getElem?_map, List.getElem?_eq_getElem hn]; rfl)
   rw [e1, e2, wo_gath ((vTabs_iff.1 hv).1 _ (List.getElem_mem hn))]
   simp [mapT]
  ·have e1 : (tabsOf (sprL c) Ts).getD n [] = [] := by
    rw [List.getD_eq_getElem?_getD, List.getElem?_eq_none (by unfold tabsOf; rw [List.length_map]; omega)]; rfl
   have e2 : (tabsOf (fun L => L) (woT c Ts)).getD n [] = [] := by
    rw [List.getD_eq_getElem?_getD, List.getElem?_eq_none (by unfold tabsOf woT; rw [List.length_map, List.length_map]; omega)]; rfl
   rw [e1, e2]
def lostL (c : UInt8) (T : Tbl SL) : List (List Int) := (T.filter fun x => decide (sprL c x.2 = [])).map (·.1)
theorem lost_len (c : UInt8) : ∀ T : Tbl SL, (red RgS (sprL c) T).length + (lostL c T).length = T.length
 | [] => rfl
 | x :: r => by
  have ih := lost_len c r
  unfold lostL at ih ⊢
  rw [red_cons, List.filter_cons]
  by_cases h : sprL c x.2 = []
  ·rw [if_neg (show ¬ RgS.stays (sprL c x.2) = true from fun k => of_decide_eq_true k h), if_pos (decide_eq_true h), List.map_cons, List.length_cons, List.length_cons]
   omega
  ·rw [if_pos (show RgS.stays (sprL c x.2) = true from decide_eq_true h), if_neg (fun k => h (of_decide_eq_true k)), List.length_cons, List.length_cons]
   omega
end Go.Proofs.YtehdemcfeoiecaaGreatDoor
