import Derived.ProofKit
import Derived.Deep.SlicePairs
import Derived.Lib.SmallJoins
import Derived.Laws.IdiomStrings
import Derived.Sort.Walk0
import Derived.Sort.LotD3
import Derived.Sort.LotA
import Derived.Sort.LotB
import Derived.Sort.LotC
import Derived.Lib.Slices
import Derived.Maps.Views
import Derived.Sort.KeysCollected
import Derived.Test.YtehdemcfeoiecaaGreatDoorA00
set_option maxHeartbeats 64000000
set_option maxRecDepth 100000
namespace Go.Firn.Tb
abbrev Tbl (D : Type) := List (List Int × D)
structure Rg (D : Type) where
 add : D → D → D
 mul : D → D → D
 stays : D → Bool
 fits : D → Bool
section
variable {D : Type}
def gath (R : Rg D) (L : Tbl D) : Tbl D := (gat R.add L).filter fun x => R.stays x.2
def okT (R : Rg D) (T : Tbl D) : Bool := decide (T.length ≤ 60) && T.all fun x => R.fits x.2
def join1 (mul : D → D → D) (x : List Int × D) (v : Tbl D) : Tbl D := (v.filter fun y => decide (x.1.getD 0 0 = y.1.getD 0 0)).map fun y => (x.1 ++ y.1.drop 1, mul x.2 y.2)
def joinL (mul : D → D → D) (u v : Tbl D) : Tbl D := u.flatMap fun x => join1 mul x v
theorem okT_le {R : Rg D} {T : Tbl D} (h : okT R T = true) : T.length ≤ 60 ∧ ∀ x ∈ T, R.fits x.2 = true := by
 unfold okT at h
 simp only [Bool.and_eq_true, decide_eq_true_eq, List.all_eq_true] at h
 exact h
theorem okT_sub {R : Rg D} {A T : Tbl D} (hs : A.Sublist T) (h : okT R T = true) : okT R A = true := by
 obtain ⟨h1, h2⟩ := okT_le h
 unfold okT
 simp only [Bool.and_eq_true, decide_eq_true_eq, List.all_eq_true]
 exact ⟨Nat.le_trans hs.length_le h1, fun x hx => h2 x (hs.subset hx)⟩
theorem gath_srt (R : Rg D) (L : Tbl D) : SrT (gath R L) := (gat_srt R.add L).filter _
theorem gath_stays (R : Rg D) (L : Tbl D) : ∀ x ∈ gath R L, R.stays x.2 = true := fun _ hx => (List.mem_filter.1 hx).2
theorem gath_keys (R : Rg D) (L : Tbl D) : ∀ x ∈ gath R L, ∃ y ∈ L, y.1 = x.1 := fun x hx => gat_keys R.add L x (List.mem_filter.1 hx).1
theorem gath_all (R : Rg D) {p : D → Prop} (hp : ∀ a b, p a → p b → p (R.add a b)) {L : Tbl D} (h : ∀ x ∈ L, p x.2) : ∀ x ∈ gath R L, p x.2 := fun x hx => gat_all R.add hp L h x (List.mem_filter.1 hx).1
theorem gath_id (R : Rg D) {L : Tbl D} (h : SrT L) : gath R L = L.filter fun x => R.stays x.2 := by unfold gath; rw [gat_sorted R.add L h]
theorem filter_stays {R : Rg D} {L : Tbl D} (h : ∀ x ∈ L, R.stays x.2 = true) : (L.filter fun x => R.stays x.2) = L := List.filter_eq_self.2 h
theorem lt_appL {a b c : List Int} (h : b < c) : a ++ b < a ++ c := by
 induction a with
 | nil => exact h
 | cons x r ih => exact List.cons_lt_cons_iff.2 (.inr ⟨rfl, ih⟩)
theorem lt_appR : ∀ {a b : List Int} (c d : List Int), a.length = b.length → a < b → a ++ c < b ++ d
 | [], [], _, _, _, h => absurd h (List.lt_irrefl [])
 | x :: r, y :: s, c, d, hl, h => by
  rcases List.cons_lt_cons_iff.1 h with k | ⟨e, k⟩
  ·exact List.cons_lt_cons_iff.2 (.inl k)
  exact List.cons_lt_cons_iff.2 (.inr ⟨e, lt_appR c d (by simpa using hl) k⟩)
theorem lt_drop {a b : List Int} (ha : a ≠ []) (hb : b ≠ []) (e : a.getD 0 0 = b.getD 0 0) (h : a < b) : a.drop 1 < b.drop 1 := by
 cases a with
 | nil => exact absurd rfl ha
 | cons x r =>
  cases b with
  | nil => exact absurd rfl hb
  | cons y s =>
   simp at e
   subst e
   rcases List.cons_lt_cons_iff.1 h with h | ⟨_, h⟩
   ·exact absurd h (Int.lt_irrefl x)
   exact h
def WdT (W : Nat) (T : Tbl D) : Prop := ∀ x ∈ T, x.1.length = W
theorem join1_mem {mul : D → D → D} {x : List Int × D} {v : Tbl D} {z} (h : z ∈ join1 mul x v) : ∃ y ∈ v, x.1.getD 0 0 = y.1.getD 0 0 ∧ z = (x.1 ++ y.1.drop 1, mul x.2 y.2) := by
 unfold join1 at h
 obtain ⟨y, hy, rfl⟩ := List.mem_map.1 h
 obtain ⟨h1, h2⟩ := List.mem_filter.1 hy
 exact ⟨y, h1, by simpa using h2, rfl⟩
theorem join_mem {mul : D → D → D} {u v : Tbl D} {z} (h : z ∈ joinL mul u v) : ∃ x ∈ u, ∃ y ∈ v, x.1.getD 0 0 = y.1.getD 0 0 ∧ z = (x.1 ++ y.1.drop 1, mul x.2 y.2) := by
 obtain ⟨x, hx, hz⟩ := List.mem_flatMap.1 h
 obtain ⟨y, hy, h⟩ := join1_mem hz
 exact ⟨x, hx, y, hy, h⟩
theorem join_srt {mul : D → D → D} {u v : Tbl D} {W V : Nat} (hu : SrT u) (hv : SrT v) (wu : WdT W u) (wv : WdT V v) (hV : 1 ≤ V) : SrT (joinL mul u v) := by
 have hne : ∀ {y}, y ∈ v → y.1 ≠ [] := fun {y} hy e => by have := wv y hy; rw [e] at this; simp at this; omega
 unfold joinL SrT
 rw [List.pairwise_flatMap]
 refine ⟨fun x _ => ?_, ?_⟩
 ·unfold join1
  rw [List.pairwise_map, List.pairwise_filter]
  refine List.Pairwise.imp_of_mem (fun {y z} hy hz h e1 e2 => ?_) hv
  simp only [decide_eq_true_eq] at e1 e2
  exact lt_appL (lt_drop (hne hy) (hne hz) (e1.symm.trans e2) h)
 refine List.Pairwise.imp_of_mem (fun {x x'} hx hx' h y hy z hz => ?_) hu
 obtain ⟨y', _, _, rfl⟩ := join1_mem hy
 obtain ⟨z', _, _, rfl⟩ := join1_mem hz
 exact lt_appR _ _ ((wu x hx).trans (wu x' hx').symm) h
theorem join_wd {mul : D → D → D} {u v : Tbl D} {W V : Nat} (wu : WdT W u) (wv : WdT V v) (hV : 1 ≤ V) : WdT (W + V - 1) (joinL mul u v) := fun z hz => by
 obtain ⟨x, hx, y, hy, e, rfl⟩ := join_mem hz
 have h1 := wu x hx
 have h2 := wv y hy
 show (x.1 ++ y.1.drop 1).length = W + V - 1
 rw [List.length_append, List.length_drop, h1, h2]
 omega
inductive Wd where
 | put (n : Nat)
 | orr
 | byy
 | drop (n : Nat)
 | pick (n : Nat) (m : Int)
 | same (n m : Nat)
 deriving DecidableEq
def widW (ws : List Int) (w : Wd) (p : List Int) : Option (List Int) :=
 match w with
 | .put n => if n < ws.length then some (p ++ [ws.getD n 0]) else none
 | .orr => if p.length < 2 then none else if p.getD (p.length - 2) 0 = p.getD (p.length - 1) 0 then some (p.take (p.length - 2) ++ [p.getD (p.length - 2) 0]) else none
 | .byy => if p.length < 2 then none else if p.getD (p.length - 2) 0 + p.getD (p.length - 1) 0 - 1 ≤ 4 then some (p.take (p.length - 2) ++ [p.getD (p.length - 2) 0 + p.getD (p.length - 1) 0 - 1]) else none
 | .drop n => if p.length < 1 then none else if (n : Int) < p.getD (p.length - 1) 0 ∧ 1 < p.getD (p.length - 1) 0 then some (p.take (p.length - 1) ++ [p.getD (p.length - 1) 0 - 1]) else none
 | .pick n _ => if p.length < 1 then none else if (n : Int) < p.getD (p.length - 1) 0 then some (p.take (p.length - 1) ++ [p.getD (p.length - 1) 0]) else none
 | .same n m => if p.length < 1 then none else if (n : Int) < p.getD (p.length - 1) 0 ∧ (m : Int) < p.getD (p.length - 1) 0 then some (p.take (p.length - 1) ++ [p.getD (p.length - 1) 0]) else none
def takesW : Wd → Nat
 | .put _ => 0
 | .orr => 2
 | .byy => 2
 | _ => 1
def keepsW (w : Wd) (v : List Int) : Bool := match w with
 | .pick n m => decide (v.getD n 0 = m)
 | .same n m => decide (v.getD n 0 = v.getD m 0)
 | _ => true
def colsW (w : Wd) (v : List Int) : List Int := match w with
 | .drop n => v.eraseIdx n
 | _ => v
def rowsW (mul : D → D → D) (tabs : List (Tbl D)) (w : Wd) (p : List (Tbl D)) : Tbl D :=
 match w with
 | .put n => tabs.getD n []
 | .orr => p.getD (p.length - 2) [] ++ p.getD (p.length - 1) []
 | .byy => joinL mul (p.getD (p.length - 2) []) (p.getD (p.length - 1) [])
 | w => ((p.getD (p.length - 1) []).filter fun x => keepsW w x.1).map fun x => (colsW w x.1, x.2)
def restW (w : Wd) (p : List (Tbl D)) : List (Tbl D) := p.take (p.length - takesW w)
def runT (R : Rg D) (tabs : List (Tbl D)) : List Wd → List (Tbl D) → Option (List (Tbl D))
 | [], p => some p
 | w :: r, p => if okT R (gath R (rowsW R.mul tabs w p)) then runT R tabs r (restW w p ++ [gath R (rowsW R.mul tabs w p)]) else none
structure TI (R : Rg D) (G : D → Prop) (W : Int) (T : Tbl D) : Prop where
 w1 : 1 ≤ W ∧ W ≤ 4
 srt : SrT T
 wd : WdT W.toNat T
 ok : okT R T = true
 st : ∀ x ∈ T, R.stays x.2 = true
 gd : ∀ x ∈ T, G x.2
structure TG (G : D → Prop) (W : Int) (T : Tbl D) : Prop where
 w1 : 1 ≤ W ∧ W ≤ 4
 srt : SrT T
 wd : WdT W.toNat T
 len : T.length ≤ 60
 gd : ∀ x ∈ T, G x.2
structure RgL (R : Rg D) (G : D → Prop) : Prop where
 gadd : ∀ a b, G a → G b → G (R.add a b)
 gmul : ∀ a b, G a → G b → R.stays a = true → R.stays b = true → R.fits a = true → R.fits b = true → G (R.mul a b)
 sadd : ∀ a b, G a → G b → R.stays a = true → R.stays b = true → R.stays (R.add a b) = true
 smul : ∀ a b, G a → G b → R.stays a = true → R.stays b = true → R.fits a = true → R.fits b = true → R.stays (R.mul a b) = true
def PI (R : Rg D) (G : D → Prop) (ws : List Int) (p : List (Tbl D)) : Prop := p.length = ws.length ∧ ∀ i, i < ws.length → TI R G (ws.getD i 0) (p.getD i [])
def GI (G : D → Prop) (ws : List Int) (tabs : List (Tbl D)) : Prop := tabs.length = ws.length ∧ ∀ i, i < ws.length → TG G (ws.getD i 0) (tabs.getD i [])
theorem PI.take {R : Rg D} {G : D → Prop} {ws : List Int} {p : List (Tbl D)} (h : PI R G ws p) (k : Nat) : PI R G (ws.take k) (p.take k) := by
 obtain ⟨h1, h2⟩ := h
 refine ⟨by rw [List.length_take, List.length_take, h1], fun i hi => ?_⟩
 rw [List.length_take] at hi
 have := h2 i (by omega)
 rw [List.getD_eq_getElem?_getD, List.getD_eq_getElem?_getD] at this ⊢
 rw [List.getElem?_take, List.getElem?_take, if_pos (by omega), if_pos (by omega)]
 exact this
theorem getD_snoc {α : Type} (l : List α) (x d : α) (i : Nat) : (l ++ [x]).getD i d = if i < l.length then l.getD i d else if i = l.length then x else d := by
 rw [List.getD_eq_getElem?_getD, List.getElem?_append]
 split
 ·rw [List.getD_eq_getElem?_getD]
 split
 ·rename_i h; subst h; simp
 rename_i h1 h2
 rw [List.getElem?_eq_none (by simp; omega)]
 rfl
theorem PI.snoc {R : Rg D} {G : D → Prop} {ws : List Int} {p : List (Tbl D)} (h : PI R G ws p) {W : Int} {T : Tbl D} (k : TI R G W T) : PI R G (ws ++ [W]) (p ++ [T]) := by
 obtain ⟨h1, h2⟩ := h
 refine ⟨by simp [h1], fun i hi => ?_⟩
 rw [getD_snoc, getD_snoc, h1]
 by_cases e : i < ws.length
 ·rw [if_pos e, if_pos e]; exact h2 i e
 have : i = ws.length := by simp at hi; omega
 rw [if_neg e, if_neg e, if_pos this, if_pos this]; exact k
structure RI (R : Rg D) (G : D → Prop) (W : Int) (L : Tbl D) : Prop where
 w1 : 1 ≤ W ∧ W ≤ 4
 wd : WdT W.toNat L
 gd : ∀ x ∈ L, G x.2
theorem RI.ti {R : Rg D} {G : D → Prop} {W : Int} {L : Tbl D} (h : RI R G W L) (hL : RgL R G) (ho : okT R (gath R L) = true) : TI R G W (gath R L) where
 w1 := h.w1
 srt := gath_srt R L
 wd := fun x hx => by obtain ⟨y, hy, e⟩ := gath_keys R L x hx; rw [← e]; exact h.wd y hy
 ok := ho
 st := gath_stays R L
 gd := gath_all R hL.gadd h.gd
theorem eraseIdx_len {v : List Int} {n : Nat} (h : n < v.length) : (v.eraseIdx n).length = v.length - 1 := by rw [List.length_eraseIdx, if_pos h]
theorem rows_RI {R : Rg D} {G : D → Prop} {ws pw qw : List Int} {tabs p : List (Tbl D)} {w : Wd} (hL : RgL R G) (hg : GI G ws tabs) (hp : PI R G pw p) (hw : widW ws w pw = some qw) :
  ∃ W, qw = pw.take (pw.length - takesW w) ++ [W] ∧ takesW w ≤ pw.length ∧ RI R G W (rowsW R.mul tabs w p) ∧ (rowsW R.mul tabs w p).length ≤ 3600 := by
 have l1 := hp.1
 cases w with
 | put n =>
  unfold widW at hw
  simp only [] at hw
  split at hw
  ·rename_i hn
   cases hw
   refine ⟨ws.getD n 0, by simp [takesW], Nat.zero_le _, ?_, ?_⟩
   ·have h := hg.2 n hn
    exact ⟨h.w1, h.wd, h.gd⟩
   have h := (hg.2 n hn).len
   show (tabs.getD n []).length ≤ 3600
   omega
  cases hw
 | orr =>
  unfold widW at hw
  simp only [] at hw
  split at hw
  ·cases hw
  split at hw
  ·rename_i hn he
   cases hw
   have hu := hp.2 (pw.length - 2) (by omega)
   have hv := hp.2 (pw.length - 1) (by omega)
   rw [← l1] at hu hv
   refine ⟨_, rfl, by simp only [takesW]; omega, ⟨(l1 ▸ hu).w1, ?_, ?_⟩, ?_⟩
   ·intro x hx
    rcases List.mem_append.1 hx with hx | hx
    ·rw [← l1]; exact hu.wd x hx
    rw [he, ← l1]; exact hv.wd x hx
   ·intro x hx
    rcases List.mem_append.1 hx with hx | hx
    ·exact hu.gd x hx
    exact hv.gd x hx
   show (p.getD (p.length - 2) [] ++ p.getD (p.length - 1) []).length ≤ 3600
   rw [List.length_append]
   have := (okT_le hu.ok).1
   have := (okT_le hv.ok).1
   omega
  cases hw
 | byy =>
  unfold widW at hw
  simp only [] at hw
  split at hw
  ·cases hw
  split at hw
  ·rename_i hn he
   cases hw
   have hu := hp.2 (pw.length - 2) (by omega)
   have hv := hp.2 (pw.length - 1) (by omega)
   rw [← l1] at hu hv he
   have wu := hu.w1
   have wv := hv.w1
   refine ⟨_, rfl, by simp only [takesW]; omega, ⟨by rw [← l1]; omega, ?_, ?_⟩, ?_⟩
   ·have := join_wd (mul := R.mul) hu.wd hv.wd (by omega)
    rw [show (pw.getD (p.length - 2) 0).toNat + (pw.getD (p.length - 1) 0).toNat - 1 = (pw.getD (p.length - 2) 0 + pw.getD (p.length - 1) 0 - 1).toNat by omega] at this
    rw [← l1]; exact this
   ·intro z hz
    obtain ⟨x, hx, y, hy, _, rfl⟩ := join_mem hz
    exact hL.gmul _ _ (hu.gd x hx) (hv.gd y hy) (hu.st x hx) (hv.st y hy) ((okT_le hu.ok).2 x hx) ((okT_le hv.ok).2 y hy)
   have h1 := (okT_le hu.ok).1
   have h2 := (okT_le hv.ok).1
   show (joinL R.mul (p.getD (p.length - 2) []) (p.getD (p.length - 1) [])).length ≤ 3600
   have : ∀ u : Tbl D, (joinL R.mul u (p.getD (p.length - 1) [])).length ≤ u.length * 60 := by
    intro u
    induction u with
    | nil => simp [joinL]
    | cons x r ih =>
     have e : joinL R.mul (x :: r) (p.getD (p.length - 1) []) = join1 R.mul x (p.getD (p.length - 1) []) ++ joinL R.mul r (p.getD (p.length - 1) []) := rfl
     have : (join1 R.mul x (p.getD (p.length - 1) [])).length ≤ 60 := by
      unfold join1
      rw [List.length_map]
      exact Nat.le_trans (List.length_filter_le _ _) h2
     rw [e, List.length_append, List.length_cons]
     omega
   have := this (p.getD (p.length - 2) [])
   omega
  cases hw
 | drop n =>
  unfold widW at hw
  simp only [] at hw
  split at hw
  ·cases hw
  split at hw
  ·rename_i hn he
   cases hw
   have hu := hp.2 (pw.length - 1) (by omega)
   rw [← l1] at hu he
   have wu := hu.w1
   refine ⟨_, rfl, by simp only [takesW]; omega, ⟨by rw [← l1]; omega, ?_, ?_⟩, ?_⟩
   ·intro z hz
    obtain ⟨x, hx, rfl⟩ := List.mem_map.1 hz
    have h1 := hu.wd x (List.mem_filter.1 hx).1
    show (x.1.eraseIdx n).length = _
    rw [eraseIdx_len (by omega), h1, ← l1]
    omega
   ·intro z hz
    obtain ⟨x, hx, rfl⟩ := List.mem_map.1 hz
    exact hu.gd x (List.mem_filter.1 hx).1
   show (List.map _ _).length ≤ 3600
   rw [List.length_map]
   have := List.length_filter_le (fun x => keepsW (.drop n) x.1) (p.getD (p.length - 1) [])
   have := (okT_le hu.ok).1
   omega
  cases hw
 | pick n m =>
  unfold widW at hw
  simp only [] at hw
  split at hw
  ·cases hw
  split at hw
  ·rename_i hn he
   cases hw
   have hu := hp.2 (pw.length - 1) (by omega)
   rw [← l1] at hu he
   refine ⟨_, rfl, by simp only [takesW]; omega, ⟨by rw [← l1]; exact hu.w1, ?_, ?_⟩, ?_⟩
   ·intro z hz
    obtain ⟨x, hx, rfl⟩ := List.mem_map.1 hz
    rw [← l1]
    exact hu.wd x (List.mem_filter.1 hx).1
   ·intro z hz
    obtain ⟨x, hx, rfl⟩ := List.mem_map.1 hz
    exact hu.gd x (List.mem_filter.1 hx).1
   show (List.map _ _).length ≤ 3600
   rw [List.length_map]
   have := List.length_filter_le (fun x => keepsW (.pick n m) x.1) (p.getD (p.length - 1) [])
   have := (okT_le hu.ok).1
   omega
  cases hw
 | same n m =>
  unfold widW at hw
  simp only [] at hw
  split at hw
  ·cases hw
  split at hw
  ·rename_i hn he
   cases hw
   have hu := hp.2 (pw.length - 1) (by omega)
   rw [← l1] at hu he
   refine ⟨_, rfl, by simp only [takesW]; omega, ⟨by rw [← l1]; exact hu.w1, ?_, ?_⟩, ?_⟩
   ·intro z hz
    obtain ⟨x, hx, rfl⟩ := List.mem_map.1 hz
    rw [← l1]
    exact hu.wd x (List.mem_filter.1 hx).1
   ·intro z hz
    obtain ⟨x, hx, rfl⟩ := List.mem_map.1 hz
    exact hu.gd x (List.mem_filter.1 hx).1
   show (List.map _ _).length ≤ 3600
   rw [List.length_map]
   have := List.length_filter_le (fun x => keepsW (.same n m) x.1) (p.getD (p.length - 1) [])
   have := (okT_le hu.ok).1
   omega
  cases hw
theorem step_PI {R : Rg D} {G : D → Prop} {ws pw qw : List Int} {tabs p : List (Tbl D)} {w : Wd} (hL : RgL R G) (hg : GI G ws tabs) (hp : PI R G pw p) (hw : widW ws w pw = some qw) (ho : okT R (gath R (rowsW R.mul tabs w p)) = true) :
  PI R G qw (restW w p ++ [gath R (rowsW R.mul tabs w p)]) := by
 obtain ⟨W, rfl, _, hri, _⟩ := rows_RI hL hg hp hw
 unfold restW
 rw [hp.1]
 exact (hp.take _).snoc (hri.ti hL ho)
theorem by_cut {R : Rg D} {J : Tbl D} (hs : SrT J) (hst : ∀ x ∈ J, R.stays x.2 = true) :
  okT R (gath R (J.take 61)) = okT R (gath R J) ∧ (okT R (gath R J) = true → gath R (J.take 61) = gath R J) := by
 have e1 : gath R J = J := by rw [gath_id R hs, filter_stays hst]
 have e2 : gath R (J.take 61) = J.take 61 := by
  rw [gath_id R (hs.sublist (List.take_sublist _ _)), filter_stays fun x hx => hst x (List.mem_of_mem_take hx)]
 rw [e1, e2]
 rcases Nat.lt_or_ge 60 J.length with h | h
 ·have a1 : okT R J = false := by unfold okT; rw [decide_eq_false (by omega)]; rfl
  have a2 : okT R (J.take 61) = false := by unfold okT; rw [decide_eq_false (by rw [List.length_take]; omega)]; rfl
  rw [a1, a2]
  exact ⟨rfl, fun h => by cases h⟩
 rw [List.take_of_length_le (by omega)]
 exact ⟨rfl, fun _ => rfl⟩
theorem join_stays {R : Rg D} {G : D → Prop} {u v : Tbl D} {W V : Int} (hL : RgL R G) (hu : TI R G W u) (hv : TI R G V v) : ∀ z ∈ joinL R.mul u v, R.stays z.2 = true := fun z hz => by
 obtain ⟨x, hx, y, hy, _, rfl⟩ := join_mem hz
 exact hL.smul _ _ (hu.gd x hx) (hv.gd y hy) (hu.st x hx) (hv.st y hy) ((okT_le hu.ok).2 x hx) ((okT_le hv.ok).2 y hy)
theorem join_srt' {R : Rg D} {G : D → Prop} {u v : Tbl D} {W V : Int} (mul : D → D → D) (hu : TI R G W u) (hv : TI R G V v) : SrT (joinL mul u v) := join_srt hu.srt hv.srt hu.wd hv.wd (by have := hv.w1; omega)
end
section
variable {D : Type}
def byR (R : Rg D) (mulR : D → D → D) (v : Tbl D) : Tbl D → Tbl D → Tbl D
 | [], out => out
 | x :: r, out => if okT R ((join1 mulR x v).foldl (fun T y => plc R.add T y.1 y.2) out) then byR R mulR v r ((join1 mulR x v).foldl (fun T y => plc R.add T y.1 y.2) out) else (join1 mulR x v).foldl (fun T y => plc R.add T y.1 y.2) out
theorem fold_app (add : D → D → D) : ∀ (A out : Tbl D), SrT (out ++ A) → A.foldl (fun T y => plc add T y.1 y.2) out = out ++ A
 | [], out, _ => by simp
 | x :: r, out, h => by
  have h' : SrT ((out ++ [x]) ++ r) := by rw [List.append_assoc]; exact h
  rw [List.foldl_cons, plc_last, fold_app add r _ h', List.append_assoc]
  ·rfl
  exact fun y hy => (List.pairwise_append.1 h).2.2 y hy x List.mem_cons_self
theorem byR_is (R : Rg D) (mulR : D → D → D) (v : Tbl D) : ∀ (u out : Tbl D), SrT (out ++ joinL mulR u v) →
  okT R (byR R mulR v u out) = (if u = [] then okT R out else okT R (out ++ joinL mulR u v)) ∧ (okT R (byR R mulR v u out) = true → byR R mulR v u out = out ++ joinL mulR u v)
 | [], out, _ => by simp [byR, joinL]
 | x :: r, out, h => by
  have e : joinL mulR (x :: r) v = join1 mulR x v ++ joinL mulR r v := rfl
  rw [e, ← List.append_assoc] at h
  rw [e, if_neg (by simp), ← List.append_assoc]
  have h1 : SrT (out ++ join1 mulR x v) := (List.pairwise_append.1 h).1
  unfold byR
  rw [fold_app R.add _ _ h1]
  by_cases ho : okT R (out ++ join1 mulR x v) = true
  ·rw [if_pos ho]
   obtain ⟨i1, i2⟩ := byR_is R mulR v r _ h
   refine ⟨?_, i2⟩
   rw [i1]
   split
   ·rename_i hr; subst hr; simp [joinL]
   rfl
  rw [if_neg ho]
  refine ⟨?_, fun k => absurd k ho⟩
  cases hk : okT R (out ++ join1 mulR x v ++ joinL mulR r v) with
  | true => exact absurd (okT_sub (List.sublist_append_left _ _) hk) ho
  | false => simpa using ho
structure MulR (R : Rg D) (G : D → Prop) (mulR : D → D → D) : Prop where
 fits : ∀ a b, G a → G b → R.stays a = true → R.stays b = true → R.fits a = true → R.fits b = true → R.fits (mulR a b) = R.fits (R.mul a b)
 same : ∀ a b, G a → G b → R.stays a = true → R.stays b = true → R.fits a = true → R.fits b = true → R.fits (R.mul a b) = true → mulR a b = R.mul a b
theorem join_fits {R : Rg D} {G : D → Prop} {mulR : D → D → D} (hm : MulR R G mulR) {v : Tbl D} {V : Int} (hv : TI R G V v) {x : List Int × D} (hx : G x.2 ∧ R.stays x.2 = true ∧ R.fits x.2 = true) :
  (join1 mulR x v).length = (join1 R.mul x v).length ∧ ((join1 mulR x v).all fun z => R.fits z.2) = (join1 R.mul x v).all (fun z => R.fits z.2) ∧ (((join1 R.mul x v).all fun z => R.fits z.2) = true → join1 mulR x v = join1 R.mul x v) := by
 unfold join1
 refine ⟨by simp, ?_, fun h => ?_⟩
 ·rw [List.all_map, List.all_map]
  rw [Bool.eq_iff_iff, List.all_eq_true, List.all_eq_true]
  constructor
  ·intro h y hy
   have hy' := (List.mem_filter.1 hy).1
   have := h y hy
   simp only [Function.comp] at this ⊢
   rw [← hm.fits _ _ hx.1 (hv.gd y hy') hx.2.1 (hv.st y hy') hx.2.2 ((okT_le hv.ok).2 y hy')]
   exact this
  intro h y hy
  have hy' := (List.mem_filter.1 hy).1
  have := h y hy
  simp only [Function.comp] at this ⊢
  rw [hm.fits _ _ hx.1 (hv.gd y hy') hx.2.1 (hv.st y hy') hx.2.2 ((okT_le hv.ok).2 y hy')]
  exact this
 rw [List.all_map, List.all_eq_true] at h
 refine List.map_congr_left fun y hy => ?_
 have hy' := (List.mem_filter.1 hy).1
 rw [hm.same _ _ hx.1 (hv.gd y hy') hx.2.1 (hv.st y hy') hx.2.2 ((okT_le hv.ok).2 y hy') (h y hy)]
theorem joinL_fits {R : Rg D} {G : D → Prop} {mulR : D → D → D} (hm : MulR R G mulR) {v : Tbl D} {V : Int} (hv : TI R G V v) : ∀ {u : Tbl D}, (∀ x ∈ u, G x.2 ∧ R.stays x.2 = true ∧ R.fits x.2 = true) →
  (joinL mulR u v).length = (joinL R.mul u v).length ∧ ((joinL mulR u v).all fun z => R.fits z.2) = (joinL R.mul u v).all (fun z => R.fits z.2) ∧ (((joinL R.mul u v).all fun z => R.fits z.2) = true → joinL mulR u v = joinL R.mul u v)
 | [], _ => ⟨rfl, rfl, fun _ => rfl⟩
 | x :: r, h => by
  obtain ⟨a1, a2, a3⟩ := join_fits hm hv (h x List.mem_cons_self)
  obtain ⟨b1, b2, b3⟩ := joinL_fits hm hv fun y hy => h y (List.mem_cons_of_mem x hy)
  have e : ∀ mul, joinL mul (x :: r) v = join1 mul x v ++ joinL mul r v := fun _ => rfl
  rw [e, e, List.length_append, List.length_append, List.all_append, List.all_append, a1, b1, a2, b2]
  refine ⟨rfl, rfl, fun k => ?_⟩
  rw [Bool.and_eq_true] at k
  rw [a3 k.1, b3 k.2]
theorem joinL_ok {R : Rg D} {G : D → Prop} {mulR : D → D → D} (hm : MulR R G mulR) {u v : Tbl D} {U V : Int} (hu : TI R G U u) (hv : TI R G V v) :
  okT R (joinL mulR u v) = okT R (joinL R.mul u v) ∧ (okT R (joinL R.mul u v) = true → joinL mulR u v = joinL R.mul u v) := by
 obtain ⟨a, b, c⟩ := joinL_fits hm hv fun x hx => ⟨hu.gd x hx, hu.st x hx, (okT_le hu.ok).2 x hx⟩
 unfold okT
 rw [a, b]
 refine ⟨rfl, fun h => c ?_⟩
 rw [Bool.and_eq_true] at h
 exact h.2
def tabR (R : Rg D) (mulR : D → D → D) (beg : List (Tbl D)) (w : Wd) (p : List (Tbl D)) : Tbl D :=
 match w with
 | .put n => beg.getD n []
 | .orr => gat R.add (p.getD (p.length - 2) [] ++ p.getD (p.length - 1) [])
 | .byy => byR R mulR (p.getD (p.length - 1) []) (p.getD (p.length - 2) []) []
 | .drop n => gat R.add ((p.getD (p.length - 1) []).map fun x => (x.1.eraseIdx n, x.2))
 | w => (p.getD (p.length - 1) []).filter fun x => keepsW w x.1
def runR (R : Rg D) (mulR : D → D → D) (beg : List (Tbl D)) : List Wd → List (Tbl D) → Option (List (Tbl D))
 | [], p => some p
 | w :: r, p => if okT R (tabR R mulR beg w p) then runR R mulR beg r (restW w p ++ [tabR R mulR beg w p]) else none
theorem gat_good {R : Rg D} {G : D → Prop} (hL : RgL R G) {L : Tbl D} (h : ∀ x ∈ L, G x.2 ∧ R.stays x.2 = true) : gath R L = gat R.add L :=
 filter_stays fun x hx => (gat_all (p := fun d => G d ∧ R.stays d = true) R.add (fun a b ha hb => ⟨hL.gadd a b ha.1 hb.1, hL.sadd a b ha.1 hb.1 ha.2 hb.2⟩) L h x hx).2
theorem tab_is {R : Rg D} {G : D → Prop} {mulR : D → D → D} {ws pw qw : List Int} {tabs beg p : List (Tbl D)} {w : Wd} (hL : RgL R G) (hm : MulR R G mulR) (hg : GI G ws tabs) (hb : ∀ n, n < ws.length → beg.getD n [] = gath R (tabs.getD n []))
  (hp : PI R G pw p) (hw : widW ws w pw = some qw) : okT R (tabR R mulR beg w p) = okT R (gath R (rowsW R.mul tabs w p)) ∧ (okT R (gath R (rowsW R.mul tabs w p)) = true → tabR R mulR beg w p = gath R (rowsW R.mul tabs w p)) := by
 obtain ⟨W, rfl, htk, hri, _⟩ := rows_RI hL hg hp hw
 have l1 := hp.1
 have same : ∀ {A B : Tbl D}, A = B → okT R A = okT R B ∧ (okT R B = true → A = B) := fun h => ⟨by rw [h], fun _ => h⟩
 have top1 : 1 ≤ pw.length → TI R G (pw.getD (pw.length - 1) 0) (p.getD (p.length - 1) []) := fun h => by rw [l1]; exact hp.2 _ (by omega)
 have top2 : 2 ≤ pw.length → TI R G (pw.getD (pw.length - 2) 0) (p.getD (p.length - 2) []) := fun h => by rw [l1]; exact hp.2 _ (by omega)
 have kept : ∀ w : Wd, (∀ v, colsW w v = v) → 1 ≤ pw.length → ((p.getD (p.length - 1) []).filter fun x => keepsW w x.1) = gath R (((p.getD (p.length - 1) []).filter fun x => keepsW w x.1).map fun x => (colsW w x.1, x.2)) := fun w hc h1 => by
  have e : (((p.getD (p.length - 1) []).filter fun x => keepsW w x.1).map fun x => (colsW w x.1, x.2)) = (p.getD (p.length - 1) []).filter fun x => keepsW w x.1 := by
   conv => rhs; rw [← List.map_id ((p.getD (p.length - 1) []).filter fun x => keepsW w x.1)]
   exact List.map_congr_left fun x _ => by rw [hc]; rfl
  rw [e, gath_id R ((top1 h1).srt.filter _), filter_stays fun x hx => (top1 h1).st x (List.mem_filter.1 hx).1]
 cases w with
 | put n =>
  have hn : n < ws.length := by
   unfold widW at hw
   simp only [] at hw
   split at hw
   ·assumption
   cases hw
  exact same (hb n hn)
 | orr =>
  refine same (gat_good hL fun x hx => ?_).symm
  rcases List.mem_append.1 hx with hx | hx
  ·exact ⟨(top2 htk).gd x hx, (top2 htk).st x hx⟩
  exact ⟨(top1 (by simp only [takesW] at htk; omega)).gd x hx, (top1 (by simp only [takesW] at htk; omega)).st x hx⟩
 | byy =>
  have hu := top2 htk
  have hv := top1 (by simp only [takesW] at htk; omega)
  obtain ⟨k1, k2⟩ := joinL_ok hm hu hv
  obtain ⟨b1, b2⟩ := byR_is R mulR (p.getD (p.length - 1) []) (p.getD (p.length - 2) []) [] (by rw [List.nil_append]; exact join_srt' mulR hu hv)
  have e : gath R (joinL R.mul (p.getD (p.length - 2) []) (p.getD (p.length - 1) [])) = joinL R.mul (p.getD (p.length - 2) []) (p.getD (p.length - 1) []) := by
   rw [gath_id R (join_srt' R.mul hu hv), filter_stays (join_stays hL hu hv)]
  rw [List.nil_append] at b1 b2
  have b1' : okT R (byR R mulR (p.getD (p.length - 1) []) (p.getD (p.length - 2) []) []) = okT R (joinL mulR (p.getD (p.length - 2) []) (p.getD (p.length - 1) [])) := by
   rw [b1]
   split
   ·rename_i h; rw [h]; rfl
   rfl
  show okT R (byR R mulR (p.getD (p.length - 1) []) (p.getD (p.length - 2) []) []) = okT R (gath R (joinL R.mul (p.getD (p.length - 2) []) (p.getD (p.length - 1) []))) ∧ (okT R (gath R (joinL R.mul (p.getD (p.length - 2) []) (p.getD (p.length - 1) []))) = true → byR R mulR (p.getD (p.length - 1) []) (p.getD (p.length - 2) []) [] = gath R (joinL R.mul (p.getD (p.length - 2) []) (p.getD (p.length - 1) [])))
  rw [e, b1', k1]
  refine ⟨rfl, fun h => ?_⟩
  rw [b2 (by rw [b1', k1]; exact h), k2 h]
 | drop n =>
  have h1 := top1 htk
  have e : ((p.getD (p.length - 1) []).filter fun x => keepsW (.drop n) x.1) = p.getD (p.length - 1) [] := List.filter_eq_self.2 fun _ _ => rfl
  have e2 : rowsW R.mul tabs (.drop n) p = (p.getD (p.length - 1) []).map fun x => (x.1.eraseIdx n, x.2) := by
   show (((p.getD (p.length - 1) []).filter fun x => keepsW (.drop n) x.1).map fun x => (colsW (.drop n) x.1, x.2)) = _
   rw [e]; rfl
  rw [e2]
  refine same (gat_good hL fun z hz => ?_).symm
  obtain ⟨x, hx, rfl⟩ := List.mem_map.1 hz
  exact ⟨h1.gd x hx, h1.st x hx⟩
 | pick n m => exact same (kept (.pick n m) (fun _ => rfl) htk)
 | same n m => exact same (kept (.same n m) (fun _ => rfl) htk)
def planW (ws : List Int) : List Wd → List Int → Option (List Int)
 | [], p => some p
 | w :: r, p => match widW ws w p with
  | none => none
  | some q => planW ws r q
theorem run_is {R : Rg D} {G : D → Prop} {mulR : D → D → D} {ws : List Int} {tabs beg : List (Tbl D)} (hL : RgL R G) (hm : MulR R G mulR) (hg : GI G ws tabs) (hb : ∀ n, n < ws.length → beg.getD n [] = gath R (tabs.getD n [])) :
  ∀ (l : List Wd) {pw qw : List Int} {p : List (Tbl D)}, PI R G pw p → planW ws l pw = some qw → runR R mulR beg l p = runT R tabs l p
 | [], _, _, _, _, _ => rfl
 | w :: r, pw, qw, p, hp, h => by
  unfold planW at h
  split at h
  ·cases h
  rename_i q hq
  obtain ⟨k1, k2⟩ := tab_is hL hm hg hb hp hq
  unfold runR runT
  rw [k1]
  split
  ·rename_i ho
   rw [k2 ho]
   exact run_is hL hm hg hb r (step_PI hL hg hp hq ho) h
  rfl
theorem run_PI {R : Rg D} {G : D → Prop} {ws : List Int} {tabs : List (Tbl D)} (hL : RgL R G) (hg : GI G ws tabs) :
  ∀ (l : List Wd) {pw qw : List Int} {p q : List (Tbl D)}, PI R G pw p → planW ws l pw = some qw → runT R tabs l p = some q → PI R G qw q
 | [], pw, qw, p, q, hp, h, k => by
  simp only [planW, Option.some.injEq] at h
  simp only [runT, Option.some.injEq] at k
  subst h; subst k; exact hp
 | w :: r, pw, qw, p, q, hp, h, k => by
  unfold planW at h
  split at h
  ·cases h
  rename_i q' hq
  unfold runT at k
  split at k
  ·rename_i ho
   exact run_PI hL hg r (step_PI hL hg hp hq ho) h k
  cases k
end
section
variable {D E : Type}
def mapT (ι : D → E) (T : Tbl D) : Tbl E := T.map fun x => (x.1, ι x.2)
structure HomR (R : Rg D) (S : Rg E) (ι : D → E) : Prop where
 add : ∀ a b, S.add (ι a) (ι b) = ι (R.add a b)
 mul : ∀ a b, S.mul (ι a) (ι b) = ι (R.mul a b)
 stays : ∀ a, S.stays (ι a) = R.stays a
 fits : ∀ a, S.fits (ι a) = R.fits a
theorem map_plc {add : D → D → D} {addE : E → E → E} {ι : D → E} (h : ∀ a b, addE (ι a) (ι b) = ι (add a b)) : ∀ (T : Tbl D) (v : List Int) (d : D), plc addE (mapT ι T) v (ι d) = mapT ι (plc add T v d)
 | [], _, _ => rfl
 | x :: r, v, d => by
  show plc addE ((x.1, ι x.2) :: mapT ι r) v (ι d) = _
  unfold plc
  simp only []
  split
  ·rw [map_plc h r v d]; rfl
  split
  ·rw [h]; rfl
  rfl
theorem map_gat {add : D → D → D} {addE : E → E → E} {ι : D → E} (h : ∀ a b, addE (ι a) (ι b) = ι (add a b)) (L : Tbl D) : gat addE (mapT ι L) = mapT ι (gat add L) := by
 refine snoc_ind (p := fun L => gat addE (mapT ι L) = mapT ι (gat add L)) rfl (fun L x ih => ?_) L
 rw [gat_snoc, ← map_plc h, ← ih]
 unfold mapT
 rw [List.map_append]
 exact gat_snoc addE _ _
theorem map_filter {ι : D → E} (q : List Int × E → Bool) (T : Tbl D) : (mapT ι T).filter q = mapT ι (T.filter fun x => q (x.1, ι x.2)) := by
 unfold mapT; rw [List.filter_map]; rfl
theorem map_okT {R : Rg D} {S : Rg E} {ι : D → E} (h : HomR R S ι) (T : Tbl D) : okT S (mapT ι T) = okT R T := by
 unfold okT mapT
 rw [List.length_map, List.all_map]
 congr 1
 congr 1
 funext x
 exact h.fits x.2
theorem map_gath {R : Rg D} {S : Rg E} {ι : D → E} (h : HomR R S ι) (L : Tbl D) : gath S (mapT ι L) = mapT ι (gath R L) := by
 unfold gath
 rw [map_gat h.add, map_filter]
 congr 1
 congr 1
 funext x
 exact h.stays x.2
theorem map_getD {ι : D → E} (p : List (Tbl D)) (i : Nat) : (p.map (mapT ι)).getD i [] = mapT ι (p.getD i []) := by
 rw [List.getD_eq_getElem?_getD, List.getD_eq_getElem?_getD, List.getElem?_map]
 cases p[i]? <;> rfl
theorem map_join {ι : D → E} {mul : D → D → D} {mulE : E → E → E} (h : ∀ a b, mulE (ι a) (ι b) = ι (mul a b)) (u v : Tbl D) : joinL mulE (mapT ι u) (mapT ι v) = mapT ι (joinL mul u v) := by
 induction u with
 | nil => rfl
 | cons x r ih =>
  have e : joinL mul (x :: r) v = join1 mul x v ++ joinL mul r v := rfl
  have e' : joinL mulE (mapT ι (x :: r)) (mapT ι v) = join1 mulE (x.1, ι x.2) (mapT ι v) ++ joinL mulE (mapT ι r) (mapT ι v) := rfl
  rw [e, e', ih]
  have e2 : join1 mulE (x.1, ι x.2) (mapT ι v) = mapT ι (join1 mul x v) := by
   unfold join1
   rw [map_filter]
   unfold mapT
   rw [List.map_map, List.map_map]
   exact List.map_congr_left fun y _ => by simp [h]
  rw [e2]
  unfold mapT
  rw [List.map_append]
theorem map_rows {R : Rg D} {S : Rg E} {ι : D → E} (h : HomR R S ι) (tabs : List (Tbl D)) (w : Wd) (p : List (Tbl D)) : rowsW S.mul (tabs.map (mapT ι)) w (p.map (mapT ι)) = mapT ι (rowsW R.mul tabs w p) := by
 have kept : ∀ w : Wd, ((((p.map (mapT ι)).getD ((p.map (mapT ι)).length - 1) []).filter fun x => keepsW w x.1).map fun x => (colsW w x.1, x.2)) = mapT ι (((p.getD (p.length - 1) []).filter fun x => keepsW w x.1).map fun x => (colsW w x.1, x.2)) := fun w => by
  rw [map_getD, List.length_map, map_filter]
  unfold mapT
  rw [List.map_map, List.map_map]
  rfl
 cases w with
 | put n => exact map_getD tabs n
 | orr =>
  show _ ++ _ = _
  rw [map_getD, map_getD, List.length_map]
  unfold mapT
  rw [← List.map_append]; rfl
 | byy =>
  show joinL _ _ _ = _
  rw [map_getD, map_getD, List.length_map]
  exact map_join h.mul _ _
 | drop n => exact kept (.drop n)
 | pick n m => exact kept (.pick n m)
 | same n m => exact kept (.same n m)
theorem map_run {R : Rg D} {S : Rg E} {ι : D → E} (h : HomR R S ι) (tabs : List (Tbl D)) : ∀ (l : List Wd) (p : List (Tbl D)), runT S (tabs.map (mapT ι)) l (p.map (mapT ι)) = (runT R tabs l p).map fun q => q.map (mapT ι)
 | [], p => rfl
 | w :: r, p => by
  unfold runT
  rw [map_rows h, map_gath h, map_okT h]
  split
  ·have := map_run h tabs r (restW w p ++ [gath R (rowsW R.mul tabs w p)])
   rw [← this]
   congr 1
   rw [List.map_append]
   congr 1
   unfold restW
   rw [List.length_map, List.map_take]
  rfl
end
end Go.Firn.Tb
namespace Go.Firn
open Go.RowKit Go.Deep
theorem Gr.fresh {w w' : World} {cs : Array Value} {e : TypeId} (h : Gr (w.alloc (.cells cs e)) w') {j : Nat} {v : Value} (hv : cs[j]? = some v) : w'.cell? ⟨w.heap.size, j, none⟩ = some v ∧ w'.frozen? ⟨w.heap.size, j, none⟩ = false := by
 have hn := heap_alloc_new w (.cells cs e)
 refine ⟨h.cell (by rw [cell_of_row _ _ j cs e (0, 0) hn]; exact hv), ?_⟩
 rw [Below.frozen h (by simp)]
 unfold World.frozen?
 rw [hn]
 simp
theorem Gr.fresh' {w w' : World} {cs : Array Value} {e : TypeId} (h : Gr (w.alloc (.cells cs e)) w') {b j : Nat} {v : Value} (hb : w.heap.size = b) (hv : cs[j]? = some v) : w'.cell? ⟨b, j, none⟩ = some v ∧ w'.frozen? ⟨b, j, none⟩ = false := by
 subst hb; exact h.fresh hv
theorem Gr.setAt {a w : World} (h : Gr a w) {b j : Nat} (hb : a.heap.size ≤ b) (u : Value) : Gr a (w.setCell ⟨b, j, none⟩ u) := h.setCell (p := ⟨b, j, none⟩) hb u
def RdS (w : World) (a : Option Addr) (n : Nat) (f : Nat → ByteArray) (g : Nat → Int) : Prop :=
 n = 0 ∨ ∃ b o, a = some ⟨b, o, none⟩ ∧ ∀ i, i < n → w.cell? ⟨b, o + i * 2, none⟩ = some (.string (f i)) ∧ w.cell? ⟨b, o + i * 2 + 1, none⟩ = some (.int .i64 (g i))
theorem RdS.gr {w w' : World} {a : Option Addr} {n : Nat} {f : Nat → ByteArray} {g : Nat → Int} (h : RdS w a n f g) (k : Gr w w') : RdS w' a n f g := by
 rcases h with h | ⟨b, o, ha, hc⟩
 ·exact .inl h
 exact .inr ⟨b, o, ha, fun i hi => ⟨k.cell (hc i hi).1, k.cell (hc i hi).2⟩⟩
theorem RdS.congr {w : World} {a : Option Addr} {n : Nat} {f f' : Nat → ByteArray} {g g' : Nat → Int} (h : RdS w a n f g) (e : ∀ i, i < n → f i = f' i ∧ g i = g' i) : RdS w a n f' g' := by
 rcases h with h | ⟨b, o, ha, hc⟩
 ·exact .inl h
 exact .inr ⟨b, o, ha, fun i hi => by rw [(hc i hi).1, (hc i hi).2, (e i hi).1, (e i hi).2]; exact ⟨rfl, rfl⟩⟩
theorem RdS.nil (w : World) (a : Option Addr) (f : Nat → ByteArray) (g : Nat → Int) : RdS w a 0 f g := .inl rfl
theorem RdS.at {w : World} {a : Option Addr} {n : Nat} {f : Nat → ByteArray} {g : Nat → Int} (h : RdS w a n f g) {k : Nat} (hk : k < n) :
  ∃ b o, a = some ⟨b, o, none⟩ ∧ ∀ i, i < n → w.cell? ⟨b, o + i * 2, none⟩ = some (.string (f i)) ∧ w.cell? ⟨b, o + i * 2 + 1, none⟩ = some (.int .i64 (g i)) := by
 rcases h with h | h
 ·omega
 exact h
section
variable {H : Type} {enc : TypeId × Value → H} {P : Program} {w : World} {base : Nat} {spare : Nat → Bool} {held : Bool}
def strOf : Value → ByteArray
 | .string s => s
 | _ => ByteArray.empty
theorem RdS.of_trod {t e S E : TypeId} {f0 f1 : Field} {fuel : Nat} {a : Option Addr} {len cap : Nat} {x : DataW H × List MemPlace} (ht : P.underlying t = some (.slice e)) (he : P.underlying e = some (.struct #[f0, f1]))
  (ce : P.cellsOf e = 2) (h0 : f0.offset = 0 ∧ f0.type = S) (h1 : f1.offset = 1 ∧ f1.type = E) (cS : P.cellsOf S = 1) (cE : P.cellsOf E = 1) (hS : P.underlying S = some .string) (hE : P.underlying E = some (.int .i64))
  (h : DataW.trod enc P w base spare held fuel t [.slice a len cap] = some x) :
  ∃ (f : Nat → ByteArray) (g : Nat → Int), len ≤ 9223372036854775807 ∧ (∀ i, i < len → (f i).size ≤ 9223372036854775807 ∧ (Lit.int .i64 (g i)).wf = true) ∧ RdS w a len f g := by
 obtain ⟨o0, t0⟩ := h0
 obtain ⟨o1, t1⟩ := h1
 rcases open_slice_pairs ht he ce o0 o1 (by rw [t0]; exact cS) (by rw [t1]; exact cE) h with ⟨hcs, _⟩ | ⟨ad, l, c, m, n, V0, V1, D0, D1, P0, P1, hcs, _, hl, hm, hmm, _, hx⟩
 ·simp only [List.cons.injEq, and_true, Value.slice.injEq] at hcs
  obtain ⟨rfl, rfl, rfl⟩ := hcs
  exact ⟨fun _ => ByteArray.empty, fun _ => 0, by omega, fun i hi => by omega, .inl rfl⟩
 simp only [List.cons.injEq, and_true, Value.slice.injEq] at hcs
 obtain ⟨rfl, rfl, rfl⟩ := hcs
 have hlm : len ≤ m := by rw [hmm]; split <;> omega
 have each : ∀ i, i < m → (V0 i = .string (strOf (V0 i)) ∧ (strOf (V0 i)).size ≤ maxLen) ∧ (V1 i = .int .i64 (intOf (V1 i)) ∧ (Lit.int .i64 (intOf (V1 i))).wf = true) := by
  intro i hi
  obtain ⟨_, _, h2, h3⟩ := hx i hi
  rw [t0] at h2
  rw [t1] at h3
  obtain ⟨p, hp, _, wp⟩ := DataW.trod_string hS h2
  obtain ⟨q, hq, _, wq⟩ := DataW.trod_int hE h3
  simp only [List.cons.injEq, and_true] at hp hq
  rw [hp, hq]
  exact ⟨⟨rfl, wp⟩, rfl, wq⟩
 refine ⟨fun i => strOf (V0 i), fun i => intOf (V1 i), ?_, fun i hi => ⟨?_, (each i (by omega)).2.2⟩, ?_⟩
 ·unfold maxLen at hm; omega
 ·have := (each i (by omega)).1.2
  unfold maxLen at this
  omega
 by_cases hz : len = 0
 ·exact .inl hz
 right
 have hs : ad.spot = none := by
  have := World.cell?_spot (hx 0 (by omega)).1
  simpa [Addr.add] using this
 refine ⟨ad.block, ad.off, by rw [← hs], fun i hi => ?_⟩
 obtain ⟨g0, g1, _, _⟩ := hx i (by omega)
 rw [add_flat hs] at g0 g1
 exact ⟨by rw [g0, ← (each i (by omega)).1.1], by rw [← Nat.add_assoc] at g1; rw [g1, ← (each i (by omega)).2.1]⟩
end
def bt (s : ByteArray) (i : Nat) : Nat := (s.data.toList.getD i 0).toNat
theorem bt_lt (s : ByteArray) (i : Nat) : bt s i < 256 := (s.data.toList.getD i 0).toNat_lt
theorem bt_get {s : ByteArray} {i : Nat} (h : i < s.size) : (s[i]'h).toNat = bt s i := by
 unfold bt
 have hl : i < s.data.toList.length := by simpa using h
 rw [List.getD_eq_getElem?_getD, List.getElem?_eq_getElem hl]
 rfl
theorem bt_look {P : Program} {t : TypeId} (ht : P.underlying t = some .string) {s : ByteArray} {i : Nat} (h : i < s.size) (w : World) : (Instr.index t (.string s) (.int .i64 (i : Int))).run P w = .ok (.int .u8 (bt s i : Nat)) w := by
 rw [run_index_string _ _ _ _ _ ht, dif_pos (by omega)]
 have : (s[(i : Int).toNat]'(by omega)).toNat = bt s i := bt_get h
 rw [this]
theorem conv_bytes {P : Program} {src dst e : TypeId} (hs : P.underlying src = some .string) (hd : P.underlying dst = some (.slice e)) (he : P.underlying e = some (.int .u8)) (s : ByteArray) (w : World) :
  ∃ b cp W1, (convert src dst (.string s)).run P w = .ok (.slice (some ⟨b, 0, none⟩) s.size cp) W1 ∧ Gr w W1 ∧ w.heap.size ≤ b ∧ b < W1.heap.size ∧ s.size ≤ cp ∧ (∀ j, j < s.size → W1.cell? ⟨b, j, none⟩ = some (.int .u8 (bt s j : Nat)) ∧ W1.frozen? ⟨b, j, none⟩ = false) := by
 refine ⟨w.heap.size, _, _, run_bytes_of_string w src dst e s hs hd he, ((Gr.refl w).drew).alloc _, Nat.le_refl _, by simp, grownCap_ge _ _ _ _, fun j hj => ?_⟩
 have hj' : j < s.data.size := hj
 refine ⟨?_, ?_⟩
 ·have := World.cell?_alloc_mark w.drew (bytesRow s (grownCap w s.size 0 e)) e ((bytesRow s (grownCap w s.size 0 e)).size, (bytesRow s (grownCap w s.size 0 e)).size + 1) j
  rw [bytesRow_at s _ j hj'] at this
  rw [show w.drew.heap.size = w.heap.size from rfl] at this
  rw [this, ← bt_get hj]
  rfl
 have := World.frozen?_alloc_mark w.drew (bytesRow s (grownCap w s.size 0 e)) e (bytesRow s (grownCap w s.size 0 e)).size ((bytesRow s (grownCap w s.size 0 e)).size + 1) j
 rw [show w.drew.heap.size = w.heap.size from rfl] at this
 rw [this]
 have : ¬ (bytesRow s (grownCap w s.size 0 e)).size ≤ j := by unfold bytesRow; simp; omega
 simp [this]
end Go.Firn
namespace Go.Firn
open Go.RowKit Go.Sort
theorem cell_near {w : World} {b j : Nat} {v : Value} (h : w.cell? ⟨b, j, none⟩ = some v) (u : Value) : (w.setCell ⟨b, j, none⟩ u).cell? ⟨b, j, none⟩ = some u :=
 World.cell?_setCell_same _ _ _ h
theorem cell_by {w : World} {b j k : Nat} {v : Value} (h : w.cell? ⟨b, j, none⟩ = some v) (hk : k ≠ j) (u : Value) : (w.setCell ⟨b, k, none⟩ u).cell? ⟨b, j, none⟩ = some v := by
 rw [World.cell?_setCell_other _ _ _ _ (fun e => hk (congrArg Addr.off e))]
 exact h
def Wr (bb : Nat) (w w' : World) : Prop := w.grownBy w' (some bb)
theorem Wr.refl (bb : Nat) (w : World) : Wr bb w w := World.grownBy.refl w _
theorem Wr.trans {bb : Nat} {a b c : World} (h : Wr bb a b) (k : Wr bb b c) : Wr bb a c := World.grownBy.trans h k
theorem Wr.drewN {bb : Nat} {a b : World} (h : Wr bb a b) (m : Nat) : Wr bb a (b.drewN m) := ⟨h.os, h.tape, h.output, h.size, h.block⟩
theorem Wr.drew {bb : Nat} {a b : World} (h : Wr bb a b) : Wr bb a b.drew := ⟨h.os, h.tape, h.output, h.size, h.block⟩
theorem Wr.set {bb : Nat} {a b : World} (h : Wr bb a b) (j : Nat) (u : Value) : Wr bb a (b.setCell ⟨bb, j, none⟩ u) :=
 h.trans ⟨rfl, rfl, rfl, by simp, fun k _ hne => Below.heap_setCell _ _ _ _ (fun e => hne (congrArg some e))⟩
theorem Wr.of_gr {bb : Nat} {a b : World} (h : Gr a b) : Wr bb a b := ⟨h.os, h.tape, h.output, Gr.size h, fun k hk _ => Below.block h k hk⟩
theorem Wr.gr {bb : Nat} {w a b : World} (h : Wr bb a b) (g : Gr w a) (hb : w.heap.size ≤ bb) : Gr w b := g.grown h fun k hk => by cases hk; exact hb
theorem Wr.cell {bb : Nat} {a b : World} (h : Wr bb a b) {p : Addr} {v : Value} (hp : a.cell? p = some v) (hne : p.block ≠ bb) : b.cell? p = some v := World.grownBy.cell h hp (fun e => hne (Option.some.inj e))
def RowB (w : World) (b : Nat) (d : Array Int) : Prop := ∀ p, p < d.size → w.cell? ⟨b, p, none⟩ = some (.int .u8 d[p]!) ∧ w.frozen? ⟨b, p, none⟩ = false
theorem RowB.gr {w w' : World} {b : Nat} {d : Array Int} (h : RowB w b d) (g : Gr w w') : RowB w' b d :=
 fun p hp => ⟨g.cell (h p hp).1, (Below.frozen g (World.block_lt_of_cell? w _ (h p hp).1)).trans (h p hp).2⟩
def RetW (b : Nat) (d : Array Int) (w : World) (e : Ending) (w' : World) : Prop := e = .returned (.tuple #[]) ∧ Wr b w w' ∧ RowB w' b d
end Go.Firn
namespace Go.Proofs.YtehdemcfeoiecaaGreatDoor
abbrev Key := List UInt8
abbrev SL := List (Key × Int)
theorem key_tri (a b : Key) : a < b ∨ a = b ∨ b < a := by
 by_cases h1 : a < b
 ·exact .inl h1
 by_cases h2 : b < a
 ·exact .inr (.inr h2)
 exact .inr (.inl (List.le_antisymm (List.not_lt.1 h2) (List.not_lt.1 h1)))
theorem key_tr {a b c : Key} (h : a < b) (k : b < c) : a < c := List.lt_trans h k
def tot (φ : Key → Int) : SL → Int
 | [] => 0
 | x :: r => x.2 * φ x.1 + tot φ r
def Srt (L : SL) : Prop := L.Pairwise fun a b => a.1 < b.1
def Pos (L : SL) : Prop := ∀ x ∈ L, 1 ≤ x.2
def putL (k : Key) (n : Int) : SL → SL
 | [] => [(k, n)]
 | x :: r => if x.1 < k then x :: putL k n r else if x.1 = k then (k, x.2 + n) :: r else (k, n) :: x :: r
theorem tot_append (φ : Key → Int) : ∀ A B : SL, tot φ (A ++ B) = tot φ A + tot φ B
 | [], B => by simp [tot]
 | x :: r, B => by simp only [List.cons_append, tot, tot_append φ r B]; omega
theorem mem_put {k : Key} {n : Int} : ∀ {L : SL} {y : Key × Int}, y ∈ putL k n L → y.1 = k ∨ y ∈ L
 | [], y, h => by simp [putL] at h; exact .inl (by rw [h])
 | x :: r, y, h => by
  unfold putL at h
  split at h
  ·rcases List.mem_cons.1 h with e | h
   ·exact .inr (by rw [e]; exact List.mem_cons_self)
   rcases mem_put h with h | h
   ·exact .inl h
   exact .inr (List.mem_cons_of_mem _ h)
  split at h
  ·rcases List.mem_cons.1 h with e | h
   ·exact .inl (by rw [e])
   exact .inr (List.mem_cons_of_mem _ h)
  rcases List.mem_cons.1 h with e | h
  ·exact .inl (by rw [e])
  exact .inr h
theorem Srt.put {k : Key} {n : Int} : ∀ {L : SL}, Srt L → Srt (putL k n L)
 | [], _ => by simp [putL, Srt]
 | x :: r, h => by
  obtain ⟨h1, h2⟩ := List.pairwise_cons.1 h
  unfold putL
  split
  ·rename_i hk
   refine List.pairwise_cons.2 ⟨fun y hy => ?_, Srt.put h2⟩
   rcases mem_put hy with e | hy
   ·rw [e]; exact hk
   exact h1 y hy
  split
  ·rename_i hk
   refine List.pairwise_cons.2 ⟨fun y hy => ?_, h2⟩
   have := h1 y hy
   rw [hk] at this
   exact this
  rename_i hk hn
  refine List.pairwise_cons.2 ⟨fun y hy => ?_, h⟩
  have hkx : k < x.1 := by rcases key_tri k x.1 with h | h | h; exact h; exact absurd h.symm hn; exact absurd h hk
  rcases List.mem_cons.1 hy with e | hy
  ·rw [e]; exact hkx
  exact key_tr hkx (h1 y hy)
theorem Pos.put {k : Key} {n : Int} (hn : 1 ≤ n) : ∀ {L : SL}, Pos L → Pos (putL k n L)
 | [], _ => by intro y hy; simp [putL] at hy; rw [hy]; exact hn
 | x :: r, h => by
  have hx := h x List.mem_cons_self
  have hr : Pos r := fun y hy => h y (List.mem_cons_of_mem _ hy)
  unfold putL
  split
  ·intro y hy
   rcases List.mem_cons.1 hy with e | hy
   ·rw [e]; exact hx
   exact Pos.put hn hr y hy
  split
  ·intro y hy
   rcases List.mem_cons.1 hy with e | hy
   ·rw [e]; show 1 ≤ x.2 + n; omega
   exact hr y hy
  intro y hy
  rcases List.mem_cons.1 hy with e | hy
  ·rw [e]; exact hn
  exact h y hy
theorem put_has {k : Key} {n : Int} : ∀ {L : SL}, ∃ y ∈ putL k n L, y.1 = k
 | [] => ⟨(k, n), by simp [putL], rfl⟩
 | x :: r => by
  unfold putL
  split
  ·obtain ⟨y, h1, h2⟩ := put_has (k := k) (n := n) (L := r)
   exact ⟨y, List.mem_cons_of_mem _ h1, h2⟩
  split
  ·exact ⟨_, List.mem_cons_self, rfl⟩
  exact ⟨_, List.mem_cons_self, rfl⟩
theorem put_keeps {k : Key} {n : Int} (hn : 1 ≤ n) : ∀ {L : SL} {y : Key × Int}, y ∈ L → ∃ z ∈ putL k n L, z.1 = y.1 ∧ y.2 ≤ z.2
 | x :: r, y, h => by
  unfold putL
  split
  ·rcases List.mem_cons.1 h with e | h
   ·exact ⟨x, List.mem_cons_self, by rw [e], by rw [e]; exact Int.le_refl _⟩
   obtain ⟨z, h1, h2⟩ := put_keeps hn h
   exact ⟨z, List.mem_cons_of_mem _ h1, h2⟩
  split
  ·rename_i hk
   rcases List.mem_cons.1 h with e | h
   ·exact ⟨_, List.mem_cons_self, by rw [e]; exact hk.symm, by rw [e]; show x.2 ≤ x.2 + n; omega⟩
   exact ⟨y, List.mem_cons_of_mem _ h, rfl, Int.le_refl _⟩
  exact ⟨y, List.mem_cons_of_mem _ h, rfl, Int.le_refl _⟩
def overL (L : SL) : Bool := L.any (fun x => decide (100000 < x.2) || decide (12 < x.1.length)) || decide (40 < L.length)
def mx (p q : Key) : Key := (p ++ q).mergeSort (fun a b => decide (a ≤ b))
def srtK (p : Key) : Prop := p.Pairwise (fun a b => a ≤ b)
theorem u8tot (a b : UInt8) : (decide (a ≤ b) || decide (b ≤ a)) = true := by
 simp only [Bool.or_eq_true, decide_eq_true_eq, UInt8.le_iff_toNat_le]; omega
theorem u8tr (a b c : UInt8) (h : decide (a ≤ b) = true) (k : decide (b ≤ c) = true) : decide (a ≤ c) = true := by
 simp only [decide_eq_true_eq, UInt8.le_iff_toNat_le] at *; omega
theorem mx_perm (p q : Key) : (mx p q).Perm (p ++ q) := List.mergeSort_perm _ _
theorem mx_srt (p q : Key) : srtK (mx p q) := by
 have := List.pairwise_mergeSort (le := fun a b : UInt8 => decide (a ≤ b)) u8tr u8tot (p ++ q)
 exact this.imp fun h => by simpa using h
theorem mx_mem {p q : Key} {b : UInt8} : b ∈ mx p q ↔ b ∈ p ∨ b ∈ q := by rw [(mx_perm p q).mem_iff, List.mem_append]
def plusL (s t : SL) : SL := t.foldl (fun o x => putL x.1 x.2 o) s
def innL (a : Key × Int) (t out : SL) : SL := t.foldl (fun o b => putL (mx a.1 b.1) (a.2 * b.2) o) out
def timesF (s t out : SL) : SL := s.foldl (fun o a => innL a t o) out
def timesL (s t : SL) : SL := timesF s t []
def timesR : SL → SL → SL → SL
 | [], _, out => out
 | a :: s, t, out => if overL (innL a t out) = true then innL a t out else timesR s t (innL a t out)
theorem Srt.plus {t : SL} : ∀ {s : SL}, Srt s → Srt (plusL s t) := by
 induction t with
 | nil => intro s h; exact h
 | cons x r ih => intro s h; exact ih h.put
theorem Pos.plus {t : SL} (ht : Pos t) : ∀ {s : SL}, Pos s → Pos (plusL s t) := by
 induction t with
 | nil => intro s h; exact h
 | cons x r ih => intro s h; exact ih (fun y hy => ht y (List.mem_cons_of_mem _ hy)) (h.put (ht x List.mem_cons_self))
theorem pos_mul {m n : Int} (h : 1 ≤ m) (k : 1 ≤ n) : 1 ≤ m * n := by
 have := Int.mul_le_mul h k (by decide) (by omega)
 simpa using this
theorem Srt.inn {a : Key × Int} {t : SL} : ∀ {o : SL}, Srt o → Srt (innL a t o) := by
 induction t with
 | nil => intro o h; exact h
 | cons x r ih => intro o h; exact ih h.put
theorem Pos.inn {a : Key × Int} {t : SL} (ha : 1 ≤ a.2) (ht : Pos t) : ∀ {o : SL}, Pos o → Pos (innL a t o) := by
 induction t with
 | nil => intro o h; exact h
 | cons x r ih => intro o h; exact ih (fun y hy => ht y (List.mem_cons_of_mem _ hy)) (h.put (pos_mul ha (ht x List.mem_cons_self)))
theorem Srt.timesF {s t : SL} : ∀ {o : SL}, Srt o → Srt (timesF s t o) := by
 induction s with
 | nil => intro o h; exact h
 | cons x r ih => intro o h; exact ih h.inn
theorem Pos.timesF {s t : SL} (hs : Pos s) (ht : Pos t) : ∀ {o : SL}, Pos o → Pos (timesF s t o) := by
 induction s with
 | nil => intro o h; exact h
 | cons x r ih => intro o h; exact ih (fun y hy => hs y (List.mem_cons_of_mem _ hy)) (Pos.inn (hs x List.mem_cons_self) ht h)
theorem Srt.times {s t : SL} : Srt (timesL s t) := Srt.timesF (by simp [Srt])
theorem Pos.times {s t : SL} (hs : Pos s) (ht : Pos t) : Pos (timesL s t) := Pos.timesF hs ht (by simp [Pos])
end Go.Proofs.YtehdemcfeoiecaaGreatDoor
namespace Go.Proofs.YtehdemcfeoiecaaGreatDoor
open Go.Firn
def btw (a n b : Int) : Bool := decide (a ≤ n) && decide (n ≤ b)
def tkAt (s : ByteArray) (i : Nat) : Bool := decide (97 ≤ bt s i) && decide (bt s i ≤ 104) && (decide (i = 0) || decide (bt s (i - 1) ≤ bt s i))
def tkK (s : ByteArray) (k : Nat) : Bool := (List.range k).all (tkAt s)
theorem tkK_zero (s : ByteArray) : tkK s 0 = true := rfl
theorem tkK_succ (s : ByteArray) (k : Nat) : tkK s (k + 1) = (tkK s k && tkAt s k) := by
 unfold tkK
 rw [List.range_succ, List.all_append]
 simp
theorem tkK_stop {s : ByteArray} {k n : Nat} (hk : k < n) (h : tkAt s k = false) : tkK s n = false := by
 unfold tkK
 rw [List.all_eq_false]
 exact ⟨k, by simpa using hk, by rw [h]; simp⟩
theorem tkK_at {s : ByteArray} {k n : Nat} (h : tkK s n = true) (hk : k < n) : tkAt s k = true := by
 unfold tkK at h
 rw [List.all_eq_true] at h
 exact h k (by simpa using hk)
def isTk (s : ByteArray) : Bool := tkK s s.size && decide (s.size ≤ 12)
def isPr (s : ByteArray) (m : Int) : Bool := isTk s && btw 1 m 100000
def bLt (a b : ByteArray) : Bool := Op.bytesLess a.toList b.toList
theorem bLt_iff {a b : ByteArray} : bLt a b = true ↔ a.toList < b.toList := by unfold bLt; rw [Go.Proofs.bytesLess_eq]; simp
def vsAt (f : Nat → ByteArray) (g : Nat → Int) (i : Nat) : Bool := isPr (f i) (g i) && (decide (i = 0) || bLt (f (i - 1)) (f i))
def vsK (f : Nat → ByteArray) (g : Nat → Int) (k : Nat) : Bool := (List.range k).all (vsAt f g)
theorem vsK_zero (f : Nat → ByteArray) (g : Nat → Int) : vsK f g 0 = true := rfl
theorem vsK_succ (f : Nat → ByteArray) (g : Nat → Int) (k : Nat) : vsK f g (k + 1) = (vsK f g k && vsAt f g k) := by
 unfold vsK
 rw [List.range_succ, List.all_append]
 simp
theorem vsK_stop {f : Nat → ByteArray} {g : Nat → Int} {k n : Nat} (hk : k < n) (h : vsAt f g k = false) : vsK f g n = false := by
 unfold vsK
 rw [List.all_eq_false]
 exact ⟨k, by simpa using hk, by rw [h]; simp⟩
theorem vsK_at {f : Nat → ByteArray} {g : Nat → Int} {k n : Nat} (h : vsK f g n = true) (hk : k < n) : vsAt f g k = true := by
 unfold vsK at h
 rw [List.all_eq_true] at h
 exact h k (by simpa using hk)
def vS (f : Nat → ByteArray) (g : Nat → Int) (n : Nat) : Bool := vsK f g n && decide (n ≤ 40)
theorem bLt_cases (a b : ByteArray) : (bLt a b = true ∧ bLt b a = false ∧ (b.toList == a.toList) = false) ∨ (bLt a b = false ∧ bLt b a = false ∧ (b.toList == a.toList) = true) ∨ (bLt a b = false ∧ bLt b a = true ∧ (b.toList == a.toList) = false) := by
 unfold bLt
 rw [Go.Proofs.bytesLess_eq, Go.Proofs.bytesLess_eq]
 generalize a.toList = x
 generalize b.toList = y
 by_cases h1 : x < y
 ·have h2 : ¬ y < x := fun h => List.lt_irrefl _ (List.lt_trans h1 h)
  have h3 : y ≠ x := fun e => by subst e; exact List.lt_irrefl _ h1
  left; simp [h1, h2, h3]
 by_cases h2 : y < x
 ·have h3 : y ≠ x := fun e => by subst e; exact List.lt_irrefl _ h2
  right; right; simp [h1, h2, h3]
 have h3 : y = x := List.le_antisymm (List.not_lt.1 h1) (List.not_lt.1 h2)
 right; left; simp [h3, List.lt_irrefl]
def nmK (l : Nat → Int) (B : Int) (k : Nat) : Bool := (List.range k).all fun i => btw 0 (l i) B
theorem nmK_zero (l : Nat → Int) (B : Int) : nmK l B 0 = true := rfl
theorem nmK_succ (l : Nat → Int) (B : Int) (k : Nat) : nmK l B (k + 1) = (nmK l B k && btw 0 (l k) B) := by
 unfold nmK
 rw [List.range_succ, List.all_append]
 simp
theorem nmK_stop {l : Nat → Int} {B : Int} {k n : Nat} (hk : k < n) (h : btw 0 (l k) B = false) : nmK l B n = false := by
 unfold nmK
 rw [List.all_eq_false]
 exact ⟨k, by simpa using hk, by rw [h]; simp⟩
theorem nmK_at {l : Nat → Int} {B : Int} {k n : Nat} (h : nmK l B n = true) (hk : k < n) : 0 ≤ l k ∧ l k ≤ B := by
 unfold nmK at h
 rw [List.all_eq_true] at h
 have := h k (by simpa using hk)
 simpa [btw] using this
def nmB (l : Nat → Int) (n : Nat) (B : Int) : Bool := nmK l B n && decide (n = 8)
theorem nmB_at {l : Nat → Int} {n : Nat} {B : Int} (h : nmB l n B = true) : n = 8 ∧ ∀ i, i < 8 → 0 ≤ l i ∧ l i ≤ B := by
 unfold nmB at h
 simp only [Bool.and_eq_true, decide_eq_true_eq] at h
 obtain ⟨h1, rfl⟩ := h
 exact ⟨rfl, fun i hi => nmK_at h1 hi⟩
def prd (l : Nat → Int) (s : ByteArray) (m : Int) : Nat → Int
 | 0 => m
 | k + 1 => prd l s m k * l (bt s k - 97)
def vlS (l : Nat → Int) (f : Nat → ByteArray) (g : Nat → Int) : Nat → Int
 | 0 => 0
 | k + 1 => vlS l f g k + prd l (f k) (g k) (f k).size
theorem prd_bd {l : Nat → Int} {s : ByteArray} {m : Int} (hl : ∀ i, i < 8 → 0 ≤ l i ∧ l i ≤ 10) (hs : isTk s = true) (hm : 1 ≤ m ∧ m ≤ 100000) : ∀ k, k ≤ s.size → 0 ≤ prd l s m k ∧ prd l s m k ≤ 100000 * 10 ^ k
 | 0, _ => by simp [prd]; omega
 | k + 1, hk => by
  have ih := prd_bd hl hs hm k (by omega)
  unfold isTk at hs
  rw [Bool.and_eq_true] at hs
  have t := tkK_at hs.1 (show k < s.size by omega)
  unfold tkAt at t
  simp only [Bool.and_eq_true, decide_eq_true_eq] at t
  have b := hl (bt s k - 97) (by omega)
  show 0 ≤ prd l s m k * l (bt s k - 97) ∧ prd l s m k * l (bt s k - 97) ≤ 100000 * 10 ^ (k + 1)
  refine ⟨Int.mul_nonneg ih.1 b.1, ?_⟩
  have := Int.mul_le_mul ih.2 b.2 b.1 (by have : (0 : Int) ≤ 10 ^ k := Int.pow_nonneg (by decide); omega)
  rw [Int.pow_succ]
  omega
theorem prd_top {l : Nat → Int} {s : ByteArray} {m : Int} (hl : ∀ i, i < 8 → 0 ≤ l i ∧ l i ≤ 10) (hs : isTk s = true) (hm : 1 ≤ m ∧ m ≤ 100000) {k : Nat} (hk : k ≤ s.size) : 0 ≤ prd l s m k ∧ prd l s m k ≤ 100000000000000000 := by
 have h := prd_bd hl hs hm k hk
 have h12 : s.size ≤ 12 := by unfold isTk at hs; rw [Bool.and_eq_true] at hs; simpa using hs.2
 have : (10 : Int) ^ k ≤ 10 ^ 12 := by
  have := Nat.pow_le_pow_right (n := 10) (by decide) (show k ≤ 12 by omega)
  have e : ∀ j : Nat, (10 : Int) ^ j = ((10 ^ j : Nat) : Int) := fun j => by simp
  rw [e, e]
  omega
 have e2 : (10 : Int) ^ 12 = 1000000000000 := by decide
 omega
theorem vS_at {f : Nat → ByteArray} {g : Nat → Int} {n : Nat} (h : vS f g n = true) : n ≤ 40 ∧ ∀ i, i < n → isTk (f i) = true ∧ 1 ≤ g i ∧ g i ≤ 100000 := by
 unfold vS at h
 rw [Bool.and_eq_true] at h
 refine ⟨by simpa using h.2, fun i hi => ?_⟩
 have t := vsK_at h.1 hi
 unfold vsAt isPr at t
 rw [Bool.and_eq_true, Bool.and_eq_true] at t
 exact ⟨t.1.1, by simpa [btw] using t.1.2⟩
theorem isTk_at {s : ByteArray} (h : isTk s = true) : s.size ≤ 12 ∧ ∀ i, i < s.size → 97 ≤ bt s i ∧ bt s i ≤ 104 := by
 unfold isTk at h
 rw [Bool.and_eq_true] at h
 refine ⟨by simpa using h.2, fun i hi => ?_⟩
 have t := tkK_at h.1 hi
 unfold tkAt at t
 simp only [Bool.and_eq_true, decide_eq_true_eq] at t
 omega
theorem vlS_bd {l : Nat → Int} {f : Nat → ByteArray} {g : Nat → Int} {n : Nat} (hl : ∀ i, i < 8 → 0 ≤ l i ∧ l i ≤ 10) (h : vS f g n = true) : ∀ k, k ≤ n → 0 ≤ vlS l f g k ∧ vlS l f g k ≤ 100000000000000000 * k
 | 0, _ => by simp [vlS]
 | k + 1, hk => by
  have ih := vlS_bd hl h k (by omega)
  have a := (vS_at h).2 k (by omega)
  have b := prd_top hl a.1 a.2 (Nat.le_refl (f k).size)
  show 0 ≤ vlS l f g k + prd l (f k) (g k) (f k).size ∧ vlS l f g k + prd l (f k) (g k) (f k).size ≤ _
  omega
def csm (l : Nat → Int) (s : ByteArray) : Nat → Int
 | 0 => 0
 | k + 1 => csm l s k + l (bt s k - 97)
theorem csm_bd {l : Nat → Int} {s : ByteArray} (hl : ∀ i, i < 8 → 0 ≤ l i ∧ l i ≤ 1000) (hs : isTk s = true) : ∀ k, k ≤ s.size → 0 ≤ csm l s k ∧ csm l s k ≤ 1000 * k
 | 0, _ => by simp [csm]
 | k + 1, hk => by
  have ih := csm_bd hl hs k (by omega)
  have a := (isTk_at hs).2 k (by omega)
  have b := hl (bt s k - 97) (by omega)
  show 0 ≤ csm l s k + l (bt s k - 97) ∧ csm l s k + l (bt s k - 97) ≤ _
  omega
def csP (l : Nat → Int) (f : Nat → ByteArray) (i : Nat) : Int := csm l (f i) (f i).size
def mnR (c : Nat → Int) : Nat → Int
 | 0 => 0
 | k + 1 => if k = 0 ∨ c k < mnR c k then c k else mnR c k
theorem mnR_min (c : Nat → Int) : ∀ n, Lib.minOf ((List.range (n + 1)).map c) = mnR c (n + 1) := by
 intro n
 unfold Lib.minOf
 have hd : ((List.range (n + 1)).map c).headD 0 = c 0 := by rw [List.range_succ_eq_map]; rfl
 rw [hd]
 induction n with
 | zero => simp [mnR]
 | succ n ih =>
  have hd : ((List.range (n + 1)).map c).headD 0 = c 0 := by rw [List.range_succ_eq_map]; rfl
  rw [List.range_succ, List.map_append, List.foldl_append, ih hd]
  show min (mnR c (n + 1)) (c (n + 1)) = if n + 1 = 0 ∨ c (n + 1) < mnR c (n + 1) then c (n + 1) else mnR c (n + 1)
  split <;> omega
def ofS (f : Nat → ByteArray) (g : Nat → Int) (n : Nat) : SL := (List.range n).map fun i => ((f i).data.toList, g i)
theorem ofS_succ (f : Nat → ByteArray) (g : Nat → Int) (n : Nat) : ofS f g (n + 1) = ofS f g n ++ [((f n).data.toList, g n)] := by
 unfold ofS
 rw [List.range_succ, List.map_append]
 rfl
theorem ofS_length (f : Nat → ByteArray) (g : Nat → Int) (n : Nat) : (ofS f g n).length = n := by simp [ofS]
theorem ofS_get {f : Nat → ByteArray} {g : Nat → Int} {n i : Nat} (h : i < n) : (ofS f g n)[i]? = some ((f i).data.toList, g i) := by
 unfold ofS
 rw [List.getElem?_map, List.getElem?_range h]
 rfl
theorem ofS_mem {f : Nat → ByteArray} {g : Nat → Int} {n : Nat} {x : Key × Int} : x ∈ ofS f g n ↔ ∃ i, i < n ∧ x = ((f i).data.toList, g i) := by
 unfold ofS
 rw [List.mem_map]
 constructor
 ·rintro ⟨i, hi, rfl⟩; exact ⟨i, by simpa using hi, rfl⟩
 rintro ⟨i, hi, rfl⟩; exact ⟨i, by simpa using hi, rfl⟩
theorem ofS_inj {f f' : Nat → ByteArray} {g g' : Nat → Int} {n n' : Nat} (h : ofS f g n = ofS f' g' n') : n = n' ∧ ∀ i, i < n → f i = f' i ∧ g i = g' i := by
 have e : n = n' := by have := congrArg List.length h; rwa [ofS_length, ofS_length] at this
 subst e
 refine ⟨rfl, fun i hi => ?_⟩
 have := congrArg (fun L : SL => L[i]?) h
 simp only [ofS_get hi, Option.some.injEq, Prod.mk.injEq] at this
 exact ⟨by have := Array.toList_inj.1 this.1; exact ByteArray.ext this, this.2⟩
theorem ofS_of (L : SL) : ofS (fun i => ⟨((L.getD i ([], 0)).1).toArray⟩) (fun i => (L.getD i ([], 0)).2) L.length = L := by
 refine List.ext_getElem? fun i => ?_
 by_cases h : i < L.length
 ·rw [ofS_get h, List.getElem?_eq_getElem h]
  simp [List.getD_eq_getElem?_getD, List.getElem?_eq_getElem h]
 rw [List.getElem?_eq_none (by rw [ofS_length]; omega), List.getElem?_eq_none (by omega)]
def tkL (k : Key) : Prop := (∀ b ∈ k, 97 ≤ b.toNat ∧ b.toNat ≤ 104) ∧ srtK k
theorem bt_key {s : ByteArray} {i : Nat} (h : i < s.size) : ∃ hl : i < s.data.toList.length, bt s i = (s.data.toList[i]'hl).toNat := by
 have hl : i < s.data.toList.length := by simpa using h
 refine ⟨hl, ?_⟩
 unfold bt
 rw [List.getD_eq_getElem?_getD, List.getElem?_eq_getElem hl]
 rfl
theorem size_key (s : ByteArray) : s.data.toList.length = s.size := by simp
theorem isTk_iff {s : ByteArray} : isTk s = true ↔ tkL s.data.toList ∧ s.size ≤ 12 := by
 unfold isTk
 rw [Bool.and_eq_true, decide_eq_true_eq]
 constructor
 ·rintro ⟨h, h12⟩
  refine ⟨⟨fun b hb => ?_, ?_⟩, h12⟩
  ·obtain ⟨i, hi, rfl⟩ := List.getElem_of_mem hb
   have hi' : i < s.size := by simpa using hi
   have t := tkK_at h hi'
   unfold tkAt at t
   obtain ⟨hl, e⟩ := bt_key hi'
   simp only [Bool.and_eq_true, decide_eq_true_eq, e] at t
   exact t.1
  have step : ∀ i (hi : i + 1 < s.data.toList.length), s.data.toList[i] ≤ s.data.toList[i + 1] := by
   intro i hi
   have hi' : i + 1 < s.size := by simpa using hi
   have t := tkK_at h hi'
   unfold tkAt at t
   obtain ⟨hl, e⟩ := bt_key hi'
   obtain ⟨hl2, e2⟩ := bt_key (s := s) (i := i) (by omega)
   simp only [Bool.and_eq_true, Bool.or_eq_true, decide_eq_true_eq, e, show i + 1 - 1 = i from rfl, e2] at t
   rw [UInt8.le_iff_toNat_le]
   omega
  unfold srtK
  rw [List.pairwise_iff_getElem]
  intro i j hi hj hij
  obtain ⟨d, rfl⟩ : ∃ d, j = i + 1 + d := ⟨j - i - 1, by omega⟩
  clear hij
  induction d with
  | zero => exact step i hj
  | succ d ih => exact UInt8.le_trans (ih (by omega)) (step (i + 1 + d) (by omega))
 rintro ⟨⟨h1, h2⟩, h12⟩
 refine ⟨?_, h12⟩
 unfold tkK
 rw [List.all_eq_true]
 intro i hi
 have hi : i < s.size := by simpa using hi
 obtain ⟨hl, e⟩ := bt_key hi
 have hb := h1 _ (List.getElem_mem hl)
 unfold tkAt
 simp only [Bool.and_eq_true, Bool.or_eq_true, decide_eq_true_eq, e]
 refine ⟨hb, ?_⟩
 by_cases h0 : i = 0
 ·exact .inl h0
 right
 obtain ⟨hl2, e2⟩ := bt_key (s := s) (i := i - 1) (by omega)
 rw [e2, ← UInt8.le_iff_toNat_le]
 exact (List.pairwise_iff_getElem.1 h2) (i - 1) i hl2 hl (by omega)
theorem bLt_key {a b : ByteArray} : bLt a b = true ↔ a.data.toList < b.data.toList := by
 rw [bLt_iff, ByteArray.toList_eq, ByteArray.toList_eq]
def VL (L : SL) : Prop := Srt L ∧ Pos L ∧ (∀ x ∈ L, tkL x.1)
theorem vS_iff {f : Nat → ByteArray} {g : Nat → Int} {n : Nat} : vS f g n = true ↔ VL (ofS f g n) ∧ overL (ofS f g n) = false := by
 constructor
 ·intro h
  have hv := vS_at h
  unfold vS at h
  rw [Bool.and_eq_true] at h
  have ad : ∀ i, i + 1 < n → bLt (f i) (f (i + 1)) = true := by
   intro i hi
   have t := vsK_at h.1 hi
   unfold vsAt at t
   rw [Bool.and_eq_true, Bool.or_eq_true] at t
   rcases t.2 with t | t
   ·simp at t
   exact t
  refine ⟨⟨?_, ?_, ?_⟩, ?_⟩
  ·unfold Srt
   rw [List.pairwise_iff_getElem]
   intro i j hi hj hij
   rw [ofS_length] at hi hj
   have gi : (ofS f g n)[i]'(by rw [ofS_length]; exact hi) = ((f i).data.toList, g i) := by have := ofS_get (f := f) (g := g) hi; rw [List.getElem?_eq_getElem (by rw [ofS_length]; exact hi)] at this; simpa using this
   have gj : (ofS f g n)[j]'(by rw [ofS_length]; exact hj) = ((f j).data.toList, g j) := by have := ofS_get (f := f) (g := g) hj; rw [List.getElem?_eq_getElem (by rw [ofS_length]; exact hj)] at this; simpa using this
   rw [gi, gj]
   show (f i).data.toList < (f j).data.toList
   clear gi gj
   obtain ⟨d, rfl⟩ : ∃ d, j = i + 1 + d := ⟨j - i - 1, by omega⟩
   clear hij
   induction d with
   | zero => exact bLt_key.1 (ad i hj)
   | succ d ih =>
    have hd : i + 1 + d < n := by omega
    exact key_tr (ih (by rw [ofS_length]; exact hd) hd) (bLt_key.1 (ad (i + 1 + d) hj))
  ·intro x hx
   obtain ⟨i, hi, rfl⟩ := ofS_mem.1 hx
   exact (hv.2 i hi).2.1
  ·intro x hx
   obtain ⟨i, hi, rfl⟩ := ofS_mem.1 hx
   exact (isTk_iff.1 (hv.2 i hi).1).1
  unfold overL
  rw [Bool.or_eq_false_iff, List.any_eq_false]
  refine ⟨fun x hx => ?_, by rw [ofS_length]; simpa using hv.1⟩
  obtain ⟨i, hi, rfl⟩ := ofS_mem.1 hx
  have a := (hv.2 i hi).2.2
  have b := (isTk_iff.1 (hv.2 i hi).1).2
  rw [← size_key] at b
  simp only [Bool.or_eq_true, decide_eq_true_eq]
  omega
 rintro ⟨⟨h1, h2, h3⟩, h4⟩
 unfold overL at h4
 rw [Bool.or_eq_false_iff, List.any_eq_false, ofS_length] at h4
 unfold vS vsK
 rw [Bool.and_eq_true]
 refine ⟨?_, by have := h4.2; simp only [decide_eq_false_iff_not] at this; simp only [decide_eq_true_eq]; omega⟩
 rw [List.all_eq_true]
 intro i hi
 have hi : i < n := by simpa using hi
 have hm : ((f i).data.toList, g i) ∈ ofS f g n := ofS_mem.2 ⟨i, hi, rfl⟩
 have o := h4.1 _ hm
 simp only [Bool.or_eq_true, decide_eq_true_eq] at o
 have p := h2 _ hm
 unfold vsAt isPr btw
 simp only [Bool.and_eq_true, Bool.or_eq_true, decide_eq_true_eq]
 refine ⟨⟨isTk_iff.2 ⟨h3 _ hm, by rw [← size_key]; omega⟩, p, by omega⟩, ?_⟩
 by_cases h0 : i = 0
 ·exact .inl h0
 right
 rw [bLt_key]
 have := (List.pairwise_iff_getElem.1 h1) (i - 1) i (by rw [ofS_length]; omega) (by rw [ofS_length]; exact hi) (by omega)
 have gi : (ofS f g n)[i]'(by rw [ofS_length]; exact hi) = ((f i).data.toList, g i) := by have := ofS_get (f := f) (g := g) hi; rw [List.getElem?_eq_getElem (by rw [ofS_length]; exact hi)] at this; simpa using this
 have gj : (ofS f g n)[i - 1]'(by rw [ofS_length]; omega) = ((f (i - 1)).data.toList, g (i - 1)) := by have := ofS_get (f := f) (g := g) (i := i - 1) (n := n) (by omega); rw [List.getElem?_eq_getElem (by rw [ofS_length]; omega)] at this; simpa using this
 rw [gi, gj] at this
 exact this
theorem tkL_mx {p q : Key} (hp : tkL p) (hq : tkL q) : tkL (mx p q) :=
 ⟨fun b hb => by rcases mx_mem.1 hb with h | h; exact hp.1 b h; exact hq.1 b h, mx_srt p q⟩
theorem VL.plus {s t : SL} (hs : VL s) (ht : VL t) : VL (plusL s t) := by
 refine ⟨hs.1.plus, Pos.plus ht.2.1 hs.2.1, ?_⟩
 have key : ∀ (t s : SL), (∀ x ∈ s, tkL x.1) → (∀ x ∈ t, tkL x.1) → ∀ x ∈ plusL s t, tkL x.1 := by
  intro t
  induction t with
  | nil => intro s h _; exact h
  | cons y r ih =>
   intro s h k
   refine ih (putL y.1 y.2 s) (fun x hx => ?_) (fun x hx => k x (List.mem_cons_of_mem _ hx))
   rcases mem_put hx with e | hx
   ·rw [e]; exact k y List.mem_cons_self
   exact h x hx
 exact key t s hs.2.2 ht.2.2
theorem tk_timesF {s t : SL} (hs : ∀ x ∈ s, tkL x.1) (ht : ∀ x ∈ t, tkL x.1) : ∀ {o : SL}, (∀ x ∈ o, tkL x.1) → ∀ x ∈ timesF s t o, tkL x.1 := by
 have inn : ∀ (a : Key × Int) (t o : SL), tkL a.1 → (∀ x ∈ t, tkL x.1) → (∀ x ∈ o, tkL x.1) → ∀ x ∈ innL a t o, tkL x.1 := by
  intro a t
  induction t with
  | nil => intro o _ _ h; exact h
  | cons y r ih =>
   intro o ha k h
   refine ih (putL (mx a.1 y.1) (a.2 * y.2) o) ha (fun x hx => k x (List.mem_cons_of_mem _ hx)) fun x hx => ?_
   rcases mem_put hx with e | hx
   ·rw [e]; exact tkL_mx ha (k y List.mem_cons_self)
   exact h x hx
 induction s with
 | nil => intro o h; exact h
 | cons a r ih =>
  intro o h
  exact ih (fun x hx => hs x (List.mem_cons_of_mem _ hx)) (inn a t o (hs a List.mem_cons_self) ht h)
theorem VL.times {s t : SL} (hs : VL s) (ht : VL t) : VL (timesL s t) := ⟨Srt.times, Pos.times hs.2.1 ht.2.1, tk_timesF hs.2.2 ht.2.2 (by simp)⟩
end Go.Proofs.YtehdemcfeoiecaaGreatDoor
namespace Go.Firn
open Go.RowKit Go.Proofs.YtehdemcfeoiecaaGreatDoor
def sx (L : SL) (i : Nat) : ByteArray := ⟨(L.getD i ([], 0)).1.toArray⟩
def sy (L : SL) (i : Nat) : Int := (L.getD i ([], 0)).2
theorem ofS_sx (L : SL) : ofS (sx L) (sy L) L.length = L := ofS_of L
theorem sx_ofS {f : Nat → ByteArray} {g : Nat → Int} {n i : Nat} (h : i < n) : sx (ofS f g n) i = f i ∧ sy (ofS f g n) i = g i := by
 have := ofS_inj (f := sx (ofS f g n)) (g := sy (ofS f g n)) (n := (ofS f g n).length) (f' := f) (g' := g) (n' := n) (ofS_sx _)
 exact this.2 i (by rw [ofS_length]; exact h)
end Go.Firn
namespace Go.Firn
open Go.RowKit
def iv (L : List Int) (i : Nat) : Int := L.getD i 0
theorem iv_get {L : List Int} {i : Nat} (h : i < L.length) : L[i]? = some (iv L i) := by
 unfold iv
 rw [List.getD_eq_getElem?_getD, List.getElem?_eq_getElem h]
 rfl
theorem iv_some {L : List Int} {i : Nat} {x : Int} (h : L[i]? = some x) : iv L i = x := by
 unfold iv
 rw [List.getD_eq_getElem?_getD, h]
 rfl
theorem iv_ext {L M : List Int} (hl : L.length = M.length) (h : ∀ i, i < L.length → iv L i = iv M i) : L = M := by
 refine List.ext_getElem? fun i => ?_
 rcases Nat.lt_or_ge i L.length with k | k
 ·rw [iv_get k, iv_get (by omega), h i k]
 rw [List.getElem?_eq_none k, List.getElem?_eq_none (by omega)]
def Rd3 (w : World) (a : Option Addr) (n c : Nat) (L : List Int) : Prop := n = L.length ∧ n ≤ c ∧ c ≤ 9223372036854775807 ∧ (a = none → c = 0) ∧ RdI w a n (iv L)
theorem Rd3.gr {w w' : World} {a : Option Addr} {n c : Nat} {L : List Int} (h : Rd3 w a n c L) (g : Gr w w') : Rd3 w' a n c L := ⟨h.1, h.2.1, h.2.2.1, h.2.2.2.1, h.2.2.2.2.gr g⟩
def Off (b n : Nat) (a : Option Addr) : Prop := n = 0 ∨ ∀ ad, a = some ad → ad.block ≠ b
theorem RdI.wr {w w' : World} {a : Option Addr} {n b : Nat} {f : Nat → Int} (h : RdI w a n f) (g : Wr b w w') (ho : Off b n a) : RdI w' a n f := by
 rcases h with h | ⟨b', o, ha, hc⟩
 ·exact .inl h
 rcases ho with ho | ho
 ·exact .inl ho
 exact .inr ⟨b', o, ha, fun i hi => g.cell (hc i hi) (show b' ≠ b from ho _ ha)⟩
theorem Rd3.wr {w w' : World} {a : Option Addr} {n c b : Nat} {L : List Int} (h : Rd3 w a n c L) (g : Wr b w w') (ho : Off b n a) : Rd3 w' a n c L := ⟨h.1, h.2.1, h.2.2.1, h.2.2.2.1, h.2.2.2.2.wr g ho⟩
def Old (w0 w : World) (e : TypeId) (n : Nat) (a : Option Addr) : Prop := n = 0 ∨ ∀ ad, a = some ad → ad.block < w0.heap.size ∨ ∃ cur fz, w.heap[ad.block]? = some (.cells cur e fz)
theorem Old.of_rd {w : World} {a : Option Addr} {n : Nat} {f : Nat → Int} (h : RdI w a n f) (e : TypeId) : Old w w e n a := by
 rcases h with h | ⟨b, o, rfl, hc⟩
 ·exact .inl h
 rcases Nat.eq_zero_or_pos n with k | k
 ·exact .inl k
 refine .inr fun ad e => ?_
 obtain rfl := Option.some.inj e
 exact .inl (World.block_lt_of_cell? w _ (hc 0 k))
theorem Old.gr {w0 w w' : World} {e n : Nat} {a : Option Addr} (h : Old w0 w e n a) (g : Gr w w') : Old w0 w' e n a := by
 rcases h with h | h
 ·exact .inl h
 refine .inr fun ad ha => ?_
 rcases h ad ha with k | ⟨cur, fz, k⟩
 ·exact .inl k
 have hb : ad.block < w.heap.size := by
  rcases Nat.lt_or_ge ad.block w.heap.size with q | q
  ·exact q
  rw [Array.getElem?_eq_none q] at k; cases k
 exact .inr ⟨cur, fz, by rw [Below.block g _ hb]; exact k⟩
theorem Old.off {w0 w : World} {e e' n b : Nat} {a : Option Addr} {cur : Array Value} {fz : Nat × Nat} (h : Old w0 w e n a) (hb : w0.heap.size ≤ b) (ht : w.heap[b]? = some (.cells cur e' fz)) (hne : e ≠ e') : Off b n a := by
 rcases h with h | h
 ·exact .inl h
 refine .inr fun ad ha eb => ?_
 rcases h ad ha with k | ⟨cur', fz', k⟩
 ·omega
 rw [eb, ht] at k
 simp only [Option.some.injEq, Obj.cells.injEq] at k
 exact hne k.2.1.symm
theorem Old.wr {w0 w w' : World} {e n b : Nat} {a : Option Addr} (h : Old w0 w e n a) (g : Wr b w w') (ho : Off b n a) : Old w0 w' e n a := by
 rcases h with h | h
 ·exact .inl h
 rcases ho with ho | ho
 ·exact .inl ho
 refine .inr fun ad ha => ?_
 rcases h ad ha with k | ⟨cur, fz, k⟩
 ·exact .inl k
 have hb : ad.block < w.heap.size := by
  rcases Nat.lt_or_ge ad.block w.heap.size with q | q
  ·exact q
  rw [Array.getElem?_eq_none q] at k; cases k
 exact .inr ⟨cur, fz, by rw [g.block _ hb (fun e => ho ad ha (Option.some.inj e))]; exact k⟩
theorem Old.base {w0 w1 w : World} {e n : Nat} {a : Option Addr} (h : Old w0 w e n a) (g : w0.heap.size ≤ w1.heap.size) : Old w1 w e n a := by
 rcases h with h | h
 ·exact .inl h
 exact .inr fun ad ha => (h ad ha).imp (fun k => Nat.lt_of_lt_of_le k g) (fun k => k)
theorem owns3 {w0 w : World} {v : Value} {L : List Int} {base : Nat} (h : w.ownsRow base 3 1 v L.length (L.map (Value.int .i64))) (_ : w0.heap.size ≤ base) : ∃ a c, v = .slice a L.length c ∧ Rd3 w a L.length c L ∧ Old w0 w 3 L.length a := by
 have h0 := h
 obtain ⟨hl, hv⟩ := h
 rcases hv with ⟨rfl, hz⟩ | ⟨g, cap, cur, rfl, hb, hg, hnc, hcm, hcs, htake⟩
 ·exact ⟨none, 0, by rw [hz], ⟨rfl, by omega, by omega, fun _ => rfl, .inl hz⟩, .inl hz⟩
 refine ⟨_, _, rfl, ⟨rfl, hnc, by unfold maxLen at hcm; omega, (fun k => by cases k), .inr ⟨g, 0, rfl, fun i hi => ?_⟩⟩, .inr fun ad ha => ?_⟩
 ·have hc := h0.cells (g := g) rfl i (.int .i64 (iv L i)) (by rw [List.getElem?_map, iv_get hi]; rfl)
  rw [add_flat rfl] at hc
  exact hc
 obtain rfl := Option.some.inj ha
 exact .inr ⟨cur, _, hg⟩
end Go.Firn
