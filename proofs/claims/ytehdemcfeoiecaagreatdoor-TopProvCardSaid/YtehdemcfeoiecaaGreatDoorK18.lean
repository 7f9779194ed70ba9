import Derived.Test.YtehdemcfeoiecaaGreatDoorK02
set_option maxHeartbeats 64000000
set_option maxRecDepth 100000
namespace Go.Firn.Tb
section
variable {D : Type}
theorem sumT_le {μ : D → Nat} {b : Nat} : ∀ {L : Tbl D}, (∀ x ∈ L, μ x.2 ≤ b) → sumT μ L ≤ L.length * b
 | [], _ => by simp [sumT]
 | x :: r, h => by
  have h1 := h x List.mem_cons_self
  have h2 := sumT_le fun y hy => h y (List.mem_cons_of_mem x hy)
  rw [sumT_cons, List.length_cons, Nat.add_mul]
  omega
structure MuB (R : Rg D) (G : D → Prop) (μ : D → Nat) (b : Nat) (tabs : List (Tbl D)) : Prop where
 fit : ∀ d, G d → R.fits d = true → μ d ≤ b
 mul : ∀ x y, G x → G y → R.stays x = true → R.stays y = true → R.fits x = true → R.fits y = true → μ (R.mul x y) ≤ b
 beg : ∀ T ∈ tabs, ∀ x ∈ T, μ x.2 ≤ b
theorem rows_mu {R : Rg D} {G : D → Prop} {μ : D → Nat} {b : Nat} {ws pw qw : List Int} {tabs p : List (Tbl D)} {w : Wd} (hb : MuB R G μ b tabs) (hp : PI R G pw p) (_hg : GI G ws tabs) (_hw : widW ws w pw = some qw) : ∀ x ∈ rowsW R.mul tabs w p, μ x.2 ≤ b := by
 have l1 := hp.1
 have top : ∀ i, i < p.length → ∀ x ∈ p.getD i [], G x.2 ∧ R.stays x.2 = true ∧ R.fits x.2 = true := fun i hi x hx => by
  have h := hp.2 i (by omega)
  exact ⟨h.gd x hx, h.st x hx, (okT_le h.ok).2 x hx⟩
 have one : ∀ i, ∀ x ∈ p.getD i [], i < p.length := fun i x hx => by
  rcases Nat.lt_or_ge i p.length with k | k
  ·exact k
  rw [List.getD_eq_getElem?_getD, List.getElem?_eq_none k] at hx; cases hx
 have kept : ∀ w : Wd, ∀ z ∈ (((p.getD (p.length - 1) []).filter fun x => keepsW w x.1).map fun x => (colsW w x.1, x.2)), μ z.2 ≤ b := fun w z hz => by
  obtain ⟨x, hx, rfl⟩ := List.mem_map.1 hz
  have hx' := (List.mem_filter.1 hx).1
  have := top _ (one _ x hx') x hx'
  exact hb.fit _ this.1 this.2.2
 cases w with
 | put n =>
  intro x hx
  have hn : n < tabs.length := by
   rcases Nat.lt_or_ge n tabs.length with k | k
   ·exact k
   have hx' : x ∈ tabs.getD n [] := hx
   rw [List.getD_eq_getElem?_getD, List.getElem?_eq_none k] at hx'; cases hx'
  have hm : tabs.getD n [] ∈ tabs := by
   rw [List.getD_eq_getElem?_getD, List.getElem?_eq_getElem hn]
   exact List.getElem_mem hn
  exact hb.beg _ hm x hx
 | orr =>
  intro x hx
  rcases List.mem_append.1 hx with hx | hx
  ·have := top _ (one _ x hx) x hx; exact hb.fit _ this.1 this.2.2
  have := top _ (one _ x hx) x hx; exact hb.fit _ this.1 this.2.2
 | byy =>
  intro z hz
  obtain ⟨x, hx, y, hy, _, rfl⟩ := join_mem hz
  have h1 := top _ (one _ x hx) x hx
  have h2 := top _ (one _ y hy) y hy
  exact hb.mul _ _ h1.1 h2.1 h1.2.1 h2.2.1 h1.2.2 h2.2.2
 | drop n => exact kept (.drop n)
 | pick n m => exact kept (.pick n m)
 | same n m => exact kept (.same n m)
theorem runT_cons (R : Rg D) (tabs : List (Tbl D)) (w : Wd) (r : List Wd) (p : List (Tbl D)) : Tb.runT R tabs (w :: r) p = if okT R (gath R (rowsW R.mul tabs w p)) then Tb.runT R tabs r (restW w p ++ [gath R (rowsW R.mul tabs w p)]) else none := rfl
theorem planW_cons {ws : List Int} {w : Wd} {r : List Wd} {p q : List Int} (h : planW ws (w :: r) p = some q) : ∃ p', widW ws w p = some p' ∧ planW ws r p' = some q := by
 unfold planW at h
 split at h
 ·cases h
 rename_i p' hp; exact ⟨p', hp, h⟩
end
end Go.Firn.Tb
