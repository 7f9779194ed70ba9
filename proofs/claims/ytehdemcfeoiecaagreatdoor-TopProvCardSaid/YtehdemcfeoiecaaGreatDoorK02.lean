import Derived.Lib.ItoaNum
import Derived.Lib.AtoiAll
import Derived.Lib.Join
import Derived.Test.YtehdemcfeoiecaaGreatDoorK01
set_option maxHeartbeats 64000000
set_option maxRecDepth 100000
namespace Go.Firn.Tb
abbrev Tbl (D : Type) := List (List Int × D)
structure Rg (D : Type) where
 add : D → D → D
 mul : D → D → D
 stays : D → Bool
 fits : D → Bool
section
variable {D : Type}
def gath (R : Rg D) (L : Tbl D) : Tbl D := (gat R.add L).filter fun x => R.stays x.2
def okT (R : Rg D) (T : Tbl D) : Bool := decide (T.length ≤ 60) && T.all fun x => R.fits x.2
def join1 (mul : D → D → D) (x : List Int × D) (v : Tbl D) : Tbl D := (v.filter fun y => decide (x.1.getD 0 0 = y.1.getD 0 0)).map fun y => (x.1 ++ y.1.drop 1, mul x.2 y.2)
def joinL (mul : D → D → D) (u v : Tbl D) : Tbl D := u.flatMap fun x => join1 mul x v
theorem okT_le {R : Rg D} {T : Tbl D} (h : okT R T = true) : T.length ≤ 60 ∧ ∀ x ∈ T, R.fits x.2 = true := by
 unfold okT at h
 simp only [Bool.and_eq_true, decide_eq_true_eq, List.all_eq_true] at h
 exact h
theorem gath_srt (R : Rg D) (L : Tbl D) : SrT (gath R L) := (gat_srt R.add L).filter _
theorem gath_stays (R : Rg D) (L : Tbl D) : ∀ x ∈ gath R L, R.stays x.2 = true := fun _ hx => (List.mem_filter.1 hx).2
theorem gath_keys (R : Rg D) (L : Tbl D) : ∀ x ∈ gath R L, ∃ y ∈ L, y.1 = x.1 := fun x hx => gat_keys R.add L x (List.mem_filter.1 hx).1
theorem gath_all (R : Rg D) {p : D → Prop} (hp : ∀ a b, p a → p b → p (R.add a b)) {L : Tbl D} (h : ∀ x ∈ L, p x.2) : ∀ x ∈ gath R L, p x.2 := fun x hx => gat_all R.add hp L h x (List.mem_filter.1 hx).1
theorem gath_id (R : Rg D) {L : Tbl D} (h : SrT L) : gath R L = L.filter fun x => R.stays x.2 := by unfold gath; rw [gat_sorted R.add L h]
theorem filter_stays {R : Rg D} {L : Tbl D} (h : ∀ x ∈ L, R.stays x.2 = true) : (L.filter fun x => R.stays x.2) = L := List.filter_eq_self.2 h
theorem lt_appL {a b c : List Int} (h : b < c) : a ++ b < a ++ c := by
 induction a with
 | nil => exact h
 | cons x r ih => exact List.cons_lt_cons_iff.2 (.inr ⟨rfl, ih⟩)
theorem lt_appR : ∀ {a b : List Int} (c d : List Int), a.length = b.length → a < b → a ++ c < b ++ d
 | [], [], _, _, _, h => absurd h (List.lt_irrefl [])
 | x :: r, y :: s, c, d, hl, h => by
  rcases List.cons_lt_cons_iff.1 h with k | ⟨e, k⟩
  ·exact List.cons_lt_cons_iff.2 (.inl k)
  exact List.cons_lt_cons_iff.2 (.inr ⟨e, lt_appR c d (by simpa using hl) k⟩)
theorem lt_drop {a b : List Int} (ha : a ≠ []) (hb : b ≠ []) (e : a.getD 0 0 = b.getD 0 0) (h : a < b) : a.drop 1 < b.drop 1 := by
 cases a with
 | nil => exact absurd rfl ha
 | cons x r =>
  cases b with
  | nil => exact absurd rfl hb
  | cons y s =>
   simp at e
   subst e
   rcases List.cons_lt_cons_iff.1 h with h | ⟨_, h⟩
   ·exact absurd h (Int.lt_irrefl x)
   exact h
def WdT (W : Nat) (T : Tbl D) : Prop := ∀ x ∈ T, x.1.length = W
theorem join1_mem {mul : D → D → D} {x : List Int × D} {v : Tbl D} {z} (h : z ∈ join1 mul x v) : ∃ y ∈ v, x.1.getD 0 0 = y.1.getD 0 0 ∧ z = (x.1 ++ y.1.drop 1, mul x.2 y.2) := by
 unfold join1 at h
 obtain ⟨y, hy, rfl⟩ := List.mem_map.1 h
 obtain ⟨h1, h2⟩ := List.mem_filter.1 hy
 exact ⟨y, h1, by simpa using h2, rfl⟩
theorem join_mem {mul : D → D → D} {u v : Tbl D} {z} (h : z ∈ joinL mul u v) : ∃ x ∈ u, ∃ y ∈ v, x.1.getD 0 0 = y.1.getD 0 0 ∧ z = (x.1 ++ y.1.drop 1, mul x.2 y.2) := by
 obtain ⟨x, hx, hz⟩ := List.mem_flatMap.1 h
 obtain ⟨y, hy, h⟩ := join1_mem hz
 exact ⟨x, hx, y, hy, h⟩
theorem join_srt {mul : D → D → D} {u v : Tbl D} {W V : Nat} (hu : SrT u) (hv : SrT v) (wu : WdT W u) (wv : WdT V v) (hV : 1 ≤ V) : SrT (joinL mul u v) := by
 have hne : ∀ {y}, y ∈ v → y.1 ≠ [] := fun {y} hy e => by have := wv y hy; rw [e] at this; simp at this; omega
 unfold joinL SrT
 rw [List.pairwise_flatMap]
 refine ⟨fun x _ => ?_, ?_⟩
 ·unfold join1
  rw [List.pairwise_map, List.pairwise_filter]
  refine List.Pairwise.imp_of_mem (fun {y z} hy hz h e1 e2 => ?_) hv
  simp only [decide_eq_true_eq] at e1 e2
  exact lt_appL (lt_drop (hne hy) (hne hz) (e1.symm.trans e2) h)
 refine List.Pairwise.imp_of_mem (fun {x x'} hx hx' h y hy z hz => ?_) hu
 obtain ⟨y', _, _, rfl⟩ := join1_mem hy
 obtain ⟨z', _, _, rfl⟩ := join1_mem hz
 exact lt_appR _ _ ((wu x hx).trans (wu x' hx').symm) h
theorem join_wd {mul : D → D → D} {u v : Tbl D} {W V : Nat} (wu : WdT W u) (wv : WdT V v) (hV : 1 ≤ V) : WdT (W + V - 1) (joinL mul u v) := fun z hz => by
 obtain ⟨x, hx, y, hy, e, rfl⟩ := join_mem hz
 have h1 := wu x hx
 have h2 := wv y hy
 show (x.1 ++ y.1.drop 1).length = W + V - 1
 rw [List.length_append, List.length_drop, h1, h2]
 omega
inductive Wd where
 | put (n : Nat)
 | orr
 | byy
 | drop (n : Nat)
 | pick (n : Nat) (m : Int)
 | same (n m : Nat)
 deriving DecidableEq
def widW (ws : List Int) (w : Wd) (p : List Int) : Option (List Int) :=
 match w with
 | .put n => if n < ws.length then some (p ++ [ws.getD n 0]) else none
 | .orr => if p.length < 2 then none else if p.getD (p.length - 2) 0 = p.getD (p.length - 1) 0 then some (p.take (p.length - 2) ++ [p.getD (p.length - 2) 0]) else none
 | .byy => if p.length < 2 then none else if p.getD (p.length - 2) 0 + p.getD (p.length - 1) 0 - 1 ≤ 4 then some (p.take (p.length - 2) ++ [p.getD (p.length - 2) 0 + p.getD (p.length - 1) 0 - 1]) else none
 | .drop n => if p.length < 1 then none else if (n : Int) < p.getD (p.length - 1) 0 ∧ 1 < p.getD (p.length - 1) 0 then some (p.take (p.length - 1) ++ [p.getD (p.length - 1) 0 - 1]) else none
 | .pick n _ => if p.length < 1 then none else if (n : Int) < p.getD (p.length - 1) 0 then some (p.take (p.length - 1) ++ [p.getD (p.length - 1) 0]) else none
 | .same n m => if p.length < 1 then none else if (n : Int) < p.getD (p.length - 1) 0 ∧ (m : Int) < p.getD (p.length - 1) 0 then some (p.take (p.length - 1) ++ [p.getD (p.length - 1) 0]) else none
def takesW : Wd → Nat
 | .put _ => 0
 | .orr => 2
 | .byy => 2
 | _ => 1
def keepsW (w : Wd) (v : List Int) : Bool := match w with
 | .pick n m => decide (v.getD n 0 = m)
 | .same n m => decide (v.getD n 0 = v.getD m 0)
 | _ => true
def colsW (w : Wd) (v : List Int) : List Int := match w with
 | .drop n => v.eraseIdx n
 | _ => v
def rowsW (mul : D → D → D) (tabs : List (Tbl D)) (w : Wd) (p : List (Tbl D)) : Tbl D :=
 match w with
 | .put n => tabs.getD n []
 | .orr => p.getD (p.length - 2) [] ++ p.getD (p.length - 1) []
 | .byy => joinL mul (p.getD (p.length - 2) []) (p.getD (p.length - 1) [])
 | w => ((p.getD (p.length - 1) []).filter fun x => keepsW w x.1).map fun x => (colsW w x.1, x.2)
def restW (w : Wd) (p : List (Tbl D)) : List (Tbl D) := p.take (p.length - takesW w)
def runT (R : Rg D) (tabs : List (Tbl D)) : List Wd → List (Tbl D) → Option (List (Tbl D))
 | [], p => some p
 | w :: r, p => if okT R (gath R (rowsW R.mul tabs w p)) then runT R tabs r (restW w p ++ [gath R (rowsW R.mul tabs w p)]) else none
structure TI (R : Rg D) (G : D → Prop) (W : Int) (T : Tbl D) : Prop where
 w1 : 1 ≤ W ∧ W ≤ 4
 srt : SrT T
 wd : WdT W.toNat T
 ok : okT R T = true
 st : ∀ x ∈ T, R.stays x.2 = true
 gd : ∀ x ∈ T, G x.2
structure TG (G : D → Prop) (W : Int) (T : Tbl D) : Prop where
 w1 : 1 ≤ W ∧ W ≤ 4
 srt : SrT T
 wd : WdT W.toNat T
 len : T.length ≤ 60
 gd : ∀ x ∈ T, G x.2
structure RgL (R : Rg D) (G : D → Prop) : Prop where
 gadd : ∀ a b, G a → G b → G (R.add a b)
 gmul : ∀ a b, G a → G b → R.stays a = true → R.stays b = true → R.fits a = true → R.fits b = true → G (R.mul a b)
 sadd : ∀ a b, G a → G b → R.stays a = true → R.stays b = true → R.stays (R.add a b) = true
 smul : ∀ a b, G a → G b → R.stays a = true → R.stays b = true → R.fits a = true → R.fits b = true → R.stays (R.mul a b) = true
def PI (R : Rg D) (G : D → Prop) (ws : List Int) (p : List (Tbl D)) : Prop := p.length = ws.length ∧ ∀ i, i < ws.length → TI R G (ws.getD i 0) (p.getD i [])
def GI (G : D → Prop) (ws : List Int) (tabs : List (Tbl D)) : Prop := tabs.length = ws.length ∧ ∀ i, i < ws.length → TG G (ws.getD i 0) (tabs.getD i [])
theorem PI.take {R : Rg D} {G : D → Prop} {ws : List Int} {p : List (Tbl D)} (h : PI R G ws p) (k : Nat) : PI R G (ws.take k) (p.take k) := by
 obtain ⟨h1, h2⟩ := h
 refine ⟨by rw [List.length_take, List.length_take, h1], fun i hi => ?_⟩
 rw [List.length_take] at hi
 have := h2 i (by omega)
 rw [List.getD_eq_getElem?_getD, List.getD_eq_getElem?_getD] at this ⊢
 rw [List.getElem?_take, List.getElem?_take, if_pos (by omega), if_pos (by omega)]
 exact this
theorem getD_snoc {α : Type} (l : List α) (x d : α) (i : Nat) : (l ++ [x]).getD i d = if i < l.length then l.getD i d else if i = l.length then x else d := by
 rw [List.getD_eq_getElem?_getD, List.getElem?_append]
 split
 ·rw [List.getD_eq_getElem?_getD]
 split
 ·rename_i h; subst h; simp
 rename_i h1 h2
 rw [List.getElem?_eq_none (by simp; omega)]
 rfl
theorem PI.snoc {R : Rg D} {G : D → Prop} {ws : List Int} {p : List (Tbl D)} (h : PI R G ws p) {W : Int} {T : Tbl D} (k : TI R G W T) : PI R G (ws ++ [W]) (p ++ [T]) := by
 obtain ⟨h1, h2⟩ := h
 refine ⟨by simp [h1], fun i hi => ?_⟩
 rw [getD_snoc, getD_snoc, h1]
 by_cases e : i < ws.length
 ·rw [if_pos e, if_pos e]; exact h2 i e
 have : i = ws.length := by simp at hi; omega
 rw [if_neg e, if_neg e, if_pos this, if_pos this]; exact k
structure RI (R : Rg D) (G : D → Prop) (W : Int) (L : Tbl D) : Prop where
 w1 : 1 ≤ W ∧ W ≤ 4
 wd : WdT W.toNat L
 gd : ∀ x ∈ L, G x.2
theorem RI.ti {R : Rg D} {G : D → Prop} {W : Int} {L : Tbl D} (h : RI R G W L) (hL : RgL R G) (ho : okT R (gath R L) = true) : TI R G W (gath R L) where
 w1 := h.w1
 srt := gath_srt R L
 wd := fun x hx => by obtain ⟨y, hy, e⟩ := gath_keys R L x hx; rw [← e]; exact h.wd y hy
 ok := ho
 st := gath_stays R L
 gd := gath_all R hL.gadd h.gd
theorem eraseIdx_len {v : List Int} {n : Nat} (h : n < v.length) : (v.eraseIdx n).length = v.length - 1 := by rw [List.length_eraseIdx, if_pos h]
theorem rows_RI {R : Rg D} {G : D → Prop} {ws pw qw : List Int} {tabs p : List (Tbl D)} {w : Wd} (hL : RgL R G) (hg : GI G ws tabs) (hp : PI R G pw p) (hw : widW ws w pw = some qw) :
  ∃ W, qw = pw.take (pw.length - takesW w) ++ [W] ∧ takesW w ≤ pw.length ∧ RI R G W (rowsW R.mul tabs w p) ∧ (rowsW R.mul tabs w p).length ≤ 3600 := by
 have l1 := hp.1
 cases w with
 | put n =>
  unfold widW at hw
  simp only [] at hw
  split at hw
  ·rename_i hn
   cases hw
   refine ⟨ws.getD n 0, by simp [takesW], Nat.zero_le _, ?_, ?_⟩
   ·have h := hg.2 n hn
    exact ⟨h.w1, h.wd, h.gd⟩
   have h := (hg.2 n hn).len
   show (tabs.getD n []).length ≤ 3600
   omega
  cases hw
 | orr =>
  unfold widW at hw
  simp only [] at hw
  split at hw
  ·cases hw
  split at hw
  ·rename_i hn he
   cases hw
   have hu := hp.2 (pw.length - 2) (by omega)
   have hv := hp.2 (pw.length - 1) (by omega)
   rw [← l1] at hu hv
   refine ⟨_, rfl, by simp only [takesW]; omega, ⟨(l1 ▸ hu).w1, ?_, ?_⟩, ?_⟩
   ·intro x hx
    rcases List.mem_append.1 hx with hx | hx
    ·rw [← l1]; exact hu.wd x hx
    rw [he, ← l1]; exact hv.wd x hx
   ·intro x hx
    rcases List.mem_append.1 hx with hx | hx
    ·exact hu.gd x hx
    exact hv.gd x hx
   show (p.getD (p.length - 2) [] ++ p.getD (p.length - 1) []).length ≤ 3600
   rw [List.length_append]
   have := (okT_le hu.ok).1
   have := (okT_le hv.ok).1
   omega
  cases hw
 | byy =>
  unfold widW at hw
  simp only [] at hw
  split at hw
  ·cases hw
  split at hw
  ·rename_i hn he
   cases hw
   have hu := hp.2 (pw.length - 2) (by omega)
   have hv := hp.2 (pw.length - 1) (by omega)
   rw [← l1] at hu hv he
   have wu := hu.w1
   have wv := hv.w1
   refine ⟨_, rfl, by simp only [takesW]; omega, ⟨by rw [← l1]; omega, ?_, ?_⟩, ?_⟩
   ·have := join_wd (mul := R.mul) hu.wd hv.wd (by omega)
    rw [show (pw.getD (p.length - 2) 0).toNat + (pw.getD (p.length - 1) 0).toNat - 1 = (pw.getD (p.length - 2) 0 + pw.getD (p.length - 1) 0 - 1).toNat by omega] at this
    rw [← l1]; exact this
   ·intro z hz
    obtain ⟨x, hx, y, hy, _, rfl⟩ := join_mem hz
    exact hL.gmul _ _ (hu.gd x hx) (hv.gd y hy) (hu.st x hx) (hv.st y hy) ((okT_le hu.ok).2 x hx) ((okT_le hv.ok).2 y hy)
   have h1 := (okT_le hu.ok).1
   have h2 := (okT_le hv.ok).1
   show (joinL R.mul (p.getD (p.length - 2) []) (p.getD (p.length - 1) [])).length ≤ 3600
   have : ∀ u : Tbl D, (joinL R.mul u (p.getD (p.length - 1) [])).length ≤ u.length * 60 := by
    intro u
    induction u with
    | nil => simp [joinL]
    | cons x r ih =>
     have e : joinL R.mul (x :: r) (p.getD (p.length - 1) []) = join1 R.mul x (p.getD (p.length - 1) []) ++ joinL R.mul r (p.getD (p.length - 1) []) := rfl
     have : (join1 R.mul x (p.getD (p.length - 1) [])).length ≤ 60 := by
      unfold join1
      rw [List.length_map]
      exact Nat.le_trans (List.length_filter_le _ _) h2
     rw [e, List.length_append, List.length_cons]
     omega
   have := this (p.getD (p.length - 2) [])
   omega
  cases hw
 | drop n =>
  unfold widW at hw
  simp only [] at hw
  split at hw
  ·cases hw
  split at hw
  ·rename_i hn he
   cases hw
   have hu := hp.2 (pw.length - 1) (by omega)
   rw [← l1] at hu he
   have wu := hu.w1
   refine ⟨_, rfl, by simp only [takesW]; omega, ⟨by rw [← l1]; omega, ?_, ?_⟩, ?_⟩
   ·intro z hz
    obtain ⟨x, hx, rfl⟩ := List.mem_map.1 hz
    have h1 := hu.wd x (List.mem_filter.1 hx).1
    show (x.1.eraseIdx n).length = _
    rw [eraseIdx_len (by omega), h1, ← l1]
    omega
   ·intro z hz
    obtain ⟨x, hx, rfl⟩ := List.mem_map.1 hz
    exact hu.gd x (List.mem_filter.1 hx).1
   show (List.map _ _).length ≤ 3600
   rw [List.length_map]
   have := List.length_filter_le (fun x => keepsW (.drop n) x.1) (p.getD (p.length - 1) [])
   have := (okT_le hu.ok).1
   omega
  cases hw
 | pick n m =>
  unfold widW at hw
  simp only [] at hw
  split at hw
  ·cases hw
  split at hw
  ·rename_i hn he
   cases hw
   have hu := hp.2 (pw.length - 1) (by omega)
   rw [← l1] at hu he
   refine ⟨_, rfl, by simp only [takesW]; omega, ⟨by rw [← l1]; exact hu.w1, ?_, ?_⟩, ?_⟩
   ·intro z hz
    obtain ⟨x, hx, rfl⟩ := List.mem_map.1 hz
    rw [← l1]
    exact hu.wd x (List.mem_filter.1 hx).1
   ·intro z hz
    obtain ⟨x, hx, rfl⟩ := List.mem_map.1 hz
    exact hu.gd x (List.mem_filter.1 hx).1
   show (List.map _ _).length ≤ 3600
   rw [List.length_map]
   have := List.length_filter_le (fun x => keepsW (.pick n m) x.1) (p.getD (p.length - 1) [])
   have := (okT_le hu.ok).1
   omega
  cases hw
 | same n m =>
  unfold widW at hw
  simp only [] at hw
  split at hw
  ·cases hw
  split at hw
  ·rename_i hn he
   cases hw
   have hu := hp.2 (pw.length - 1) (by omega)
   rw [← l1] at hu he
   refine ⟨_, rfl, by simp only [takesW]; omega, ⟨by rw [← l1]; exact hu.w1, ?_, ?_⟩, ?_⟩
   ·intro z hz
    obtain ⟨x, hx, rfl⟩ := List.mem_map.1 hz
    rw [← l1]
    exact hu.wd x (List.mem_filter.1 hx).1
   ·intro z hz
    obtain ⟨x, hx, rfl⟩ := List.mem_map.1 hz
    exact hu.gd x (List.mem_filter.1 hx).1
   show (List.map _ _).length ≤ 3600
   rw [List.length_map]
   have := List.length_filter_le (fun x => keepsW (.same n m) x.1) (p.getD (p.length - 1) [])
   have := (okT_le hu.ok).1
   omega
  cases hw
theorem step_PI {R : Rg D} {G : D → Prop} {ws pw qw : List Int} {tabs p : List (Tbl D)} {w : Wd} (hL : RgL R G) (hg : GI G ws tabs) (hp : PI R G pw p) (hw : widW ws w pw = some qw) (ho : okT R (gath R (rowsW R.mul tabs w p)) = true) :
  PI R G qw (restW w p ++ [gath R (rowsW R.mul tabs w p)]) := by
 obtain ⟨W, rfl, _, hri, _⟩ := rows_RI hL hg hp hw
 unfold restW
 rw [hp.1]
 exact (hp.take _).snoc (hri.ti hL ho)
theorem by_cut {R : Rg D} {J : Tbl D} (hs : SrT J) (hst : ∀ x ∈ J, R.stays x.2 = true) :
  okT R (gath R (J.take 61)) = okT R (gath R J) ∧ (okT R (gath R J) = true → gath R (J.take 61) = gath R J) := by
 have e1 : gath R J = J := by rw [gath_id R hs, filter_stays hst]
 have e2 : gath R (J.take 61) = J.take 61 := by
  rw [gath_id R (hs.sublist (List.take_sublist _ _)), filter_stays fun x hx => hst x (List.mem_of_mem_take hx)]
 rw [e1, e2]
 rcases Nat.lt_or_ge 60 J.length with h | h
 ·have a1 : okT R J = false := by unfold okT; rw [decide_eq_false (by omega)]; rfl
  have a2 : okT R (J.take 61) = false := by unfold okT; rw [decide_eq_false (by rw [List.length_take]; omega)]; rfl
  rw [a1, a2]
  exact ⟨rfl, fun h => by cases h⟩
 rw [List.take_of_length_le (by omega)]
 exact ⟨rfl, fun _ => rfl⟩
theorem join_stays {R : Rg D} {G : D → Prop} {u v : Tbl D} {W V : Int} (hL : RgL R G) (hu : TI R G W u) (hv : TI R G V v) : ∀ z ∈ joinL R.mul u v, R.stays z.2 = true := fun z hz => by
 obtain ⟨x, hx, y, hy, _, rfl⟩ := join_mem hz
 exact hL.smul _ _ (hu.gd x hx) (hv.gd y hy) (hu.st x hx) (hv.st y hy) ((okT_le hu.ok).2 x hx) ((okT_le hv.ok).2 y hy)
theorem join_srt' {R : Rg D} {G : D → Prop} {u v : Tbl D} {W V : Int} (mul : D → D → D) (hu : TI R G W u) (hv : TI R G V v) : SrT (joinL mul u v) := join_srt hu.srt hv.srt hu.wd hv.wd (by have := hv.w1; omega)
end
section
variable {D : Type}
def planW (ws : List Int) : List Wd → List Int → Option (List Int)
 | [], p => some p
 | w :: r, p => match widW ws w p with
  | none => none
  | some q => planW ws r q
theorem run_PI {R : Rg D} {G : D → Prop} {ws : List Int} {tabs : List (Tbl D)} (hL : RgL R G) (hg : GI G ws tabs) :
  ∀ (l : List Wd) {pw qw : List Int} {p q : List (Tbl D)}, PI R G pw p → planW ws l pw = some qw → runT R tabs l p = some q → PI R G qw q
 | [], pw, qw, p, q, hp, h, k => by
  simp only [planW, Option.some.injEq] at h
  simp only [runT, Option.some.injEq] at k
  subst h; subst k; exact hp
 | w :: r, pw, qw, p, q, hp, h, k => by
  unfold planW at h
  split at h
  ·cases h
  rename_i q' hq
  unfold runT at k
  split at k
  ·rename_i ho
   exact run_PI hL hg r (step_PI hL hg hp hq ho) h k
  cases k
end
section
variable {D E : Type}
def mapT (ι : D → E) (T : Tbl D) : Tbl E := T.map fun x => (x.1, ι x.2)
end
end Go.Firn.Tb
namespace Go.Firn
open Go.RowKit
def iv (L : List Int) (i : Nat) : Int := L.getD i 0
theorem iv_get {L : List Int} {i : Nat} (h : i < L.length) : L[i]? = some (iv L i) := by
 unfold iv
 rw [List.getD_eq_getElem?_getD, List.getElem?_eq_getElem h]
 rfl
theorem iv_some {L : List Int} {i : Nat} {x : Int} (h : L[i]? = some x) : iv L i = x := by
 unfold iv
 rw [List.getD_eq_getElem?_getD, h]
 rfl
theorem iv_ext {L M : List Int} (hl : L.length = M.length) (h : ∀ i, i < L.length → iv L i = iv M i) : L = M := by
 refine List.ext_getElem? fun i => ?_
 rcases Nat.lt_or_ge i L.length with k | k
 ·rw [iv_get k, iv_get (by omega), h i k]
 rw [List.getElem?_eq_none k, List.getElem?_eq_none (by omega)]
def Rd3 (w : World) (a : Option Addr) (n c : Nat) (L : List Int) : Prop := n = L.length ∧ n ≤ c ∧ c ≤ 9223372036854775807 ∧ (a = none → c = 0) ∧ RdI w a n (iv L)
theorem Rd3.gr {w w' : World} {a : Option Addr} {n c : Nat} {L : List Int} (h : Rd3 w a n c L) (g : Gr w w') : Rd3 w' a n c L := ⟨h.1, h.2.1, h.2.2.1, h.2.2.2.1, h.2.2.2.2.gr g⟩
def Off (b n : Nat) (a : Option Addr) : Prop := n = 0 ∨ ∀ ad, a = some ad → ad.block ≠ b
theorem RdI.wr {w w' : World} {a : Option Addr} {n b : Nat} {f : Nat → Int} (h : RdI w a n f) (g : Wr b w w') (ho : Off b n a) : RdI w' a n f := by
 rcases h with h | ⟨b', o, ha, hc⟩
 ·exact .inl h
 rcases ho with ho | ho
 ·exact .inl ho
 exact .inr ⟨b', o, ha, fun i hi => g.cell (hc i hi) (show b' ≠ b from ho _ ha)⟩
theorem Rd3.wr {w w' : World} {a : Option Addr} {n c b : Nat} {L : List Int} (h : Rd3 w a n c L) (g : Wr b w w') (ho : Off b n a) : Rd3 w' a n c L := ⟨h.1, h.2.1, h.2.2.1, h.2.2.2.1, h.2.2.2.2.wr g ho⟩
def Old (w0 w : World) (e : TypeId) (n : Nat) (a : Option Addr) : Prop := n = 0 ∨ ∀ ad, a = some ad → ad.block < w0.heap.size ∨ ∃ cur fz, w.heap[ad.block]? = some (.cells cur e fz)
theorem Old.of_rd {w : World} {a : Option Addr} {n : Nat} {f : Nat → Int} (h : RdI w a n f) (e : TypeId) : Old w w e n a := by
 rcases h with h | ⟨b, o, rfl, hc⟩
 ·exact .inl h
 rcases Nat.eq_zero_or_pos n with k | k
 ·exact .inl k
 refine .inr fun ad e => ?_
 obtain rfl := Option.some.inj e
 exact .inl (World.block_lt_of_cell? w _ (hc 0 k))
theorem Old.gr {w0 w w' : World} {e n : Nat} {a : Option Addr} (h : Old w0 w e n a) (g : Gr w w') : Old w0 w' e n a := by
 rcases h with h | h
 ·exact .inl h
 refine .inr fun ad ha => ?_
 rcases h ad ha with k | ⟨cur, fz, k⟩
 ·exact .inl k
 have hb : ad.block < w.heap.size := by
  rcases Nat.lt_or_ge ad.block w.heap.size with q | q
  ·exact q
  rw [Array.getElem?_eq_none q] at k; cases k
 exact .inr ⟨cur, fz, by rw [Below.block g _ hb]; exact k⟩
theorem Old.off {w0 w : World} {e e' n b : Nat} {a : Option Addr} {cur : Array Value} {fz : Nat × Nat} (h : Old w0 w e n a) (hb : w0.heap.size ≤ b) (ht : w.heap[b]? = some (.cells cur e' fz)) (hne : e ≠ e') : Off b n a := by
 rcases h with h | h
 ·exact .inl h
 refine .inr fun ad ha eb => ?_
 rcases h ad ha with k | ⟨cur', fz', k⟩
 ·omega
 rw [eb, ht] at k
 simp only [Option.some.injEq, Obj.cells.injEq] at k
 exact hne k.2.1.symm
theorem Old.wr {w0 w w' : World} {e n b : Nat} {a : Option Addr} (h : Old w0 w e n a) (g : Wr b w w') (ho : Off b n a) : Old w0 w' e n a := by
 rcases h with h | h
 ·exact .inl h
 rcases ho with ho | ho
 ·exact .inl ho
 refine .inr fun ad ha => ?_
 rcases h ad ha with k | ⟨cur, fz, k⟩
 ·exact .inl k
 have hb : ad.block < w.heap.size := by
  rcases Nat.lt_or_ge ad.block w.heap.size with q | q
  ·exact q
  rw [Array.getElem?_eq_none q] at k; cases k
 exact .inr ⟨cur, fz, by rw [g.block _ hb (fun e => ho ad ha (Option.some.inj e))]; exact k⟩
theorem Old.base {w0 w1 w : World} {e n : Nat} {a : Option Addr} (h : Old w0 w e n a) (g : w0.heap.size ≤ w1.heap.size) : Old w1 w e n a := by
 rcases h with h | h
 ·exact .inl h
 exact .inr fun ad ha => (h ad ha).imp (fun k => Nat.lt_of_lt_of_le k g) (fun k => k)
theorem owns3 {w0 w : World} {v : Value} {L : List Int} {base : Nat} (h : w.ownsRow base 3 1 v L.length (L.map (Value.int .i64))) (_ : w0.heap.size ≤ base) : ∃ a c, v = .slice a L.length c ∧ Rd3 w a L.length c L ∧ Old w0 w 3 L.length a := by
 have h0 := h
 obtain ⟨hl, hv⟩ := h
 rcases hv with ⟨rfl, hz⟩ | ⟨g, cap, cur, rfl, hb, hg, hnc, hcm, hcs, htake⟩
 ·exact ⟨none, 0, by rw [hz], ⟨rfl, by omega, by omega, fun _ => rfl, .inl hz⟩, .inl hz⟩
 refine ⟨_, _, rfl, ⟨rfl, hnc, by unfold maxLen at hcm; omega, (fun k => by cases k), .inr ⟨g, 0, rfl, fun i hi => ?_⟩⟩, .inr fun ad ha => ?_⟩
 ·have hc := h0.cells (g := g) rfl i (.int .i64 (iv L i)) (by rw [List.getElem?_map, iv_get hi]; rfl)
  rw [add_flat rfl] at hc
  exact hc
 obtain rfl := Option.some.inj ha
 exact .inr ⟨cur, _, hg⟩
end Go.Firn
namespace Go.Proofs.YtehdemcfeoiecaaGreatDoor
open Go.RowKit Go.Firn Go.Shelf
theorem ValidSum_any (a : Option Addr) (n c : Nat) (f : Nat → ByteArray) (g : Nat → Int) (w : World) (hn : n ≤ 9223372036854775807) (hz : ∀ i, i < n → (f i).size ≤ 9223372036854775807) (hr : RdS w a n f g) :
  Calls Tryz.prog 68 #[.slice a n c] w (RetB (vS f g n) w) := by
 have HR := Lh hr
 have HZ := Lh hz
 clear hr hz
 go_enter Tryz.func68, Tryz.ntmps68
 go_wp2
 go_loopw [7] (fun si wr => ∃ k : Nat, k ≤ n ∧ si = .int .i64 k ∧ Hid (vsK f g k = true) ∧ Hid (Gr w wr)) (fun si _ => n - (intOf si).toNat)
 case atStart => exact ⟨0, Nat.zero_le _, rfl, vsK_zero f g, Gr.refl w⟩
 case round =>
  obtain ⟨k, hk, rfl, hK, hG⟩ := hrel
  by_cases hlt : k < n
  ·have i1 : (k : Int) < (n : Int) := by omega
   obtain ⟨b, o, rfl, hc⟩ := (HR.out.gr hG.out).at hlt
   obtain ⟨k0, k1⟩ := hc k hlt
   have CP := Lh (fun w1 => isProduct_any (f k) (g k) (HZ.out k hlt) w1)
   unfold RetB at CP
   have GB := Lh (hG.out.alloc (.cells #[.string (f k), .int .i64 (g k)] 58))
   obtain ⟨z0, z1⟩ := box2 wr (f k) (g k) 58
   have KS := Lh (show vsAt f g k = true → vsK f g (k + 1) = true from fun h => by rw [vsK_succ, hK.out, h]; rfl)
   have KF := Lh (show vsAt f g k = false → vS f g n = false from fun h => by unfold vS; rw [vsK_stop hlt h]; rfl)
   by_cases hk0 : k = 0
   ·have E := Lh (show vsAt f g k = isPr (f k) (g k) by unfold vsAt; rw [decide_eq_true hk0]; simp)
    have k00 : ¬ 0 < k := by omega
    clear hc hK hk0
    generalize f k = s at *
    generalize g k = m at *
    generalize isPr s m = tk at *
    generalize vsAt f g k = v at *
    cases tk with
    | false =>
     have F2 := Lh (KF.out E.out)
     clear KS KF
     go_upto_region 4 with fail
     generalize hW : wr.alloc (.cells #[.string s, .int .i64 m] 58) = W1 at *
     generalize hX : wr.heap.size = bx at *
     clear hW hX
     refine Hg (fun w' => Gr W1 w') 18 ?_
     have hS : Gr W1 W1.drew := (Gr.refl W1).drew
     iterate 1 (first
      | (refine H1 0 (c2 z0 z1) hS ?_))
     refine Hr 1 rfl (fun K hK => ?_)
     go_simp
     refine ⟨trivial, ?_⟩
     refine (callsIn_wide.2 (CP.out _)).mono ?_
     rintro e wX ⟨rfl, gX⟩
     have hS : Gr W1 wX := hS.trans gX
     refine hK.out _ _ hS ?_
     clear hK K gX
     iterate 2 (first
      | (refine H1 2 tv hS ?_)
      | (refine H1 3 tv hS ?_))
     iterate 13 (first
      | (refine Hs1 4 hS ?_)
      | (refine Hs1 5 hS ?_)
      | (refine Hs1 6 hS ?_)
      | (refine Hs1 7 hS ?_)
      | (refine Hs1 8 hS ?_)
      | (refine Hs1 9 hS ?_)
      | (refine Hs1 10 hS ?_)
      | (refine Hs1 11 hS ?_)
      | (refine Hs1 12 hS ?_)
      | (refine Hs1 13 hS ?_)
      | (refine Hs1 14 hS ?_)
      | (refine Hs1 15 hS ?_)
      | (refine Hs1 16 hS ?_))
     iterate 1 (first
      | (refine H1 17 tv hS ?_))
     refine Hd ?_
     have GX := Lh (GB.out.trans hS)
     clear hS
     go_wp2_with fail
     go_ret
     rw [F2.out]
     exact ⟨rfl, GX.out⟩
    | true =>
     have F2 := Lh (KS.out E.out)
     clear KS KF
     go_upto_region 4 with fail
     generalize hW : wr.alloc (.cells #[.string s, .int .i64 m] 58) = W1 at *
     generalize hX : wr.heap.size = bx at *
     clear hW hX
     refine Hg (fun w' => Gr W1 w') 18 ?_
     have hS : Gr W1 W1.drew := (Gr.refl W1).drew
     iterate 1 (first
      | (refine H1 0 (c2 z0 z1) hS ?_))
     refine Hr 1 rfl (fun K hK => ?_)
     go_simp
     refine ⟨trivial, ?_⟩
     refine (callsIn_wide.2 (CP.out _)).mono ?_
     rintro e wX ⟨rfl, gX⟩
     have hS : Gr W1 wX := hS.trans gX
     refine hK.out _ _ hS ?_
     clear hK K gX
     iterate 5 (first
      | (refine H1 2 tv hS ?_)
      | (refine H1 3 tv hS ?_)
      | (refine H1 4 tv hS ?_)
      | (refine H1 5 tv hS ?_)
      | (refine H1 6 tv hS ?_))
     iterate 9 (first
      | (refine Hs1 7 hS ?_)
      | (refine Hs1 8 hS ?_)
      | (refine Hs1 9 hS ?_)
      | (refine Hs1 10 hS ?_)
      | (refine Hs1 11 hS ?_)
      | (refine Hs1 12 hS ?_)
      | (refine Hs1 13 hS ?_)
      | (refine Hs1 14 hS ?_)
      | (refine Hs1 15 hS ?_))
     iterate 2 (first
      | (refine H1 16 tv hS ?_)
      | (refine H1 17 tv hS ?_))
     refine Hd ?_
     have GX := Lh (GB.out.trans hS)
     clear hS
     go_wp2_with fail
     go_roundw
     case rel => exact ⟨k + 1, hlt, by go_num, F2, GX.out⟩
     case measure => simp [intOf]; omega
   obtain ⟨j, hj⟩ : ∃ j, k = j + 1 := ⟨k - 1, by omega⟩
   have hjn : j < n := by omega
   have kp := (Gr.refl wr).alloc (.cells #[.string (f k), .int .i64 (g k)] 58) |>.cell (hc j hjn).1
   have E := Lh (show vsAt f g k = (isPr (f k) (g k) && bLt (f j) (f k)) by unfold vsAt; rw [decide_eq_false hk0, show k - 1 = j by omega]; rfl)
   have k00 : 0 < k := by omega
   have q1 : (k : Int) - 1 = (j : Int) := by omega
   have q2 : IntKind.i64.wrap ((k : Int) - 1) = (j : Int) := by rw [q1]; exact IntWalk.i64_in _ (by omega)
   have j1 : (j : Int) < (n : Int) := by omega
   have q3 : IntKind.i64.wrap (j : Int) = (j : Int) := IntWalk.i64_in _ (by omega)
   have LT := bLt_cases (f j) (f k)
   unfold bLt at LT
   have EB : bLt (f j) (f k) = Op.bytesLess (f j).toList (f k).toList := rfl
   rw [EB] at E
   clear hc hK hk0 hj EB
   generalize f k = s at *
   generalize f j = p at *
   generalize g k = m at *
   generalize isPr s m = tk at *
   generalize vsAt f g k = v at *
   cases tk with
   | false =>
    have F2 := Lh (KF.out (by rw [E.out]; rfl))
    clear KS KF LT
    go_upto_region 4 with fail
    generalize hW : wr.alloc (.cells #[.string s, .int .i64 m] 58) = W1 at *
    generalize hX : wr.heap.size = bx at *
    clear hW hX
    refine Hg (fun w' => Gr W1 w') 18 ?_
    have hS : Gr W1 W1.drew := (Gr.refl W1).drew
    iterate 1 (first
     | (refine H1 0 (c3 z0 z1 kp) hS ?_))
    refine Hr 1 rfl (fun K hK => ?_)
    go_simp
    refine ⟨trivial, ?_⟩
    refine (callsIn_wide.2 (CP.out _)).mono ?_
    rintro e wX ⟨rfl, gX⟩
    have hS : Gr W1 wX := hS.trans gX
    refine hK.out _ _ hS ?_
    clear hK K gX
    iterate 2 (first
     | (refine H1 2 tv hS ?_)
     | (refine H1 3 tv hS ?_))
    iterate 13 (first
     | (refine Hs1 4 hS ?_)
     | (refine Hs1 5 hS ?_)
     | (refine Hs1 6 hS ?_)
     | (refine Hs1 7 hS ?_)
     | (refine Hs1 8 hS ?_)
     | (refine Hs1 9 hS ?_)
     | (refine Hs1 10 hS ?_)
     | (refine Hs1 11 hS ?_)
     | (refine Hs1 12 hS ?_)
     | (refine Hs1 13 hS ?_)
     | (refine Hs1 14 hS ?_)
     | (refine Hs1 15 hS ?_)
     | (refine Hs1 16 hS ?_))
    iterate 1 (first
     | (refine H1 17 tv hS ?_))
    refine Hd ?_
    have GX := Lh (GB.out.trans hS)
    clear hS
    go_wp2_with fail
    go_ret
    rw [F2.out]
    exact ⟨rfl, GX.out⟩
   | true =>
    rcases LT with ⟨a1, a2, a3⟩ | ⟨a1, a2, a3⟩ | ⟨a1, a2, a3⟩
    ·have F2 := Lh (KS.out (by rw [E.out, a1]; rfl))
     clear KS KF
     go_upto_region 4 with fail
     generalize hW : wr.alloc (.cells #[.string s, .int .i64 m] 58) = W1 at *
     generalize hX : wr.heap.size = bx at *
     clear hW hX
     refine Hg (fun w' => Gr W1 w') 18 ?_
     have hS : Gr W1 W1.drew := (Gr.refl W1).drew
     iterate 1 (first
      | (refine H1 0 (c3 z0 z1 kp) hS ?_))
     refine Hr 1 rfl (fun K hK => ?_)
     go_simp
     refine ⟨trivial, ?_⟩
     refine (callsIn_wide.2 (CP.out _)).mono ?_
     rintro e wX ⟨rfl, gX⟩
     have hS : Gr W1 wX := hS.trans gX
     refine hK.out _ _ hS ?_
     clear hK K gX
     iterate 5 (first
      | (refine H1 2 tv hS ?_)
      | (refine H1 3 tv hS ?_)
      | (refine H1 4 tv hS ?_)
      | (refine H1 5 tv hS ?_)
      | (refine H1 6 tv hS ?_))
     iterate 9 (first
      | (refine H1 7 (c3 z0 z1 kp) hS ?_)
      | (refine H1 8 (c3 z0 z1 kp) hS ?_)
      | (refine H1 9 (c3 z0 z1 kp) hS ?_)
      | (refine H1 10 (c3 z0 z1 kp) hS ?_)
      | (refine H1 11 (c3 z0 z1 kp) hS ?_)
      | (refine H1 12 (c3 z0 z1 kp) hS ?_)
      | (refine H1 13 (c3 z0 z1 kp) hS ?_)
      | (refine H1 14 (c3 z0 z1 kp) hS ?_)
      | (refine H1 15 (c3 z0 z1 kp) hS ?_))
     iterate 2 (first
      | (refine H1 16 tv hS ?_)
      | (refine H1 17 tv hS ?_))
     refine Hd ?_
     have GX := Lh (GB.out.trans hS)
     clear hS
     go_wp2_with fail
     go_roundw
     case rel => exact ⟨k + 1, hlt, by go_num, F2, GX.out⟩
     case measure => simp [intOf]; omega
    rotate_left
    all_goals
     have F2 := Lh (KF.out (by rw [E.out, a1]; rfl))
     clear KS KF
     go_upto_region 4 with fail
     generalize hW : wr.alloc (.cells #[.string s, .int .i64 m] 58) = W1 at *
     generalize hX : wr.heap.size = bx at *
     clear hW hX
     refine Hg (fun w' => Gr W1 w') 18 ?_
     have hS : Gr W1 W1.drew := (Gr.refl W1).drew
     iterate 1 (first
      | (refine H1 0 (c3 z0 z1 kp) hS ?_))
     refine Hr 1 rfl (fun K hK => ?_)
     go_simp
     refine ⟨trivial, ?_⟩
     refine (callsIn_wide.2 (CP.out _)).mono ?_
     rintro e wX ⟨rfl, gX⟩
     have hS : Gr W1 wX := hS.trans gX
     refine hK.out _ _ hS ?_
     clear hK K gX
     iterate 5 (first
      | (refine H1 2 tv hS ?_)
      | (refine H1 3 tv hS ?_)
      | (refine H1 4 tv hS ?_)
      | (refine H1 5 tv hS ?_)
      | (refine H1 6 tv hS ?_))
     iterate 9 (first
      | (refine H1 7 (c3 z0 z1 kp) hS ?_)
      | (refine H1 8 (c3 z0 z1 kp) hS ?_)
      | (refine H1 9 (c3 z0 z1 kp) hS ?_)
      | (refine H1 10 (c3 z0 z1 kp) hS ?_)
      | (refine H1 11 (c3 z0 z1 kp) hS ?_)
      | (refine H1 12 (c3 z0 z1 kp) hS ?_)
      | (refine H1 13 (c3 z0 z1 kp) hS ?_)
      | (refine H1 14 (c3 z0 z1 kp) hS ?_)
      | (refine H1 15 (c3 z0 z1 kp) hS ?_))
     iterate 2 (first
      | (refine H1 16 tv hS ?_)
      | (refine H1 17 tv hS ?_))
     refine Hd ?_
     have GX := Lh (GB.out.trans hS)
     clear hS
     go_wp2_with fail
     go_ret
     rw [F2.out]
     exact ⟨rfl, GX.out⟩
  obtain rfl : k = n := by omega
  have i1 : ¬ (k : Int) < (k : Int) := by omega
  have E := Lh (show vS f g k = decide ((k : Int) ≤ 40) by unfold vS; rw [hK.out, Bool.true_and]; congr 1; apply propext; omega)
  go_wp2_with fail
  go_ret
  rw [E.out]
  exact ⟨rfl, hG.out⟩
end Go.Proofs.YtehdemcfeoiecaaGreatDoor
namespace Go.Proofs.YtehdemcfeoiecaaGreatDoor
open Go.Firn
def splitK (c : UInt8) : Key → List Key
 | [] => [[]]
 | b :: r => if b = c then [] :: splitK c r else (b :: (splitK c r).headD []) :: (splitK c r).tailD []
theorem splitK_ne (c : UInt8) : ∀ s : Key, splitK c s ≠ []
 | [] => by simp [splitK]
 | b :: r => by unfold splitK; split <;> simp
theorem splitK_cons (c : UInt8) (s : Key) : ∃ h t, splitK c s = h :: t := by
 cases e : splitK c s with
 | nil => exact absurd e (splitK_ne c s)
 | cons h t => exact ⟨h, t, rfl⟩
theorem splitK_no {c : UInt8} : ∀ {x : Key}, c ∉ x → splitK c x = [x]
 | [], _ => rfl
 | b :: r, h => by
  unfold splitK
  rw [if_neg (show ¬ b = c from fun e => h (by rw [e]; exact List.mem_cons_self)), splitK_no fun k => h (List.mem_cons_of_mem _ k)]
  rfl
theorem splitK_app {c : UInt8} : ∀ {x : Key} (s : Key), c ∉ x → splitK c (x ++ c :: s) = x :: splitK c s
 | [], s, _ => by
  show splitK c (c :: s) = _
  conv => lhs; unfold splitK
  rw [if_pos rfl]
 | b :: r, s, h => by
  show splitK c (b :: (r ++ c :: s)) = _
  conv => lhs; unfold splitK
  rw [if_neg (show ¬ b = c from fun e => h (by rw [e]; exact List.mem_cons_self)), splitK_app s fun k => h (List.mem_cons_of_mem _ k)]
  rfl
def isDg (b : UInt8) : Bool := decide (48 ≤ b.toNat) && decide (b.toNat ≤ 57)
theorem dg_of {k : Nat} (h : k < 10) : (UInt8.ofNat (48 + k)).toNat = 48 + k := by
 rw [UInt8.toNat_ofNat_of_lt' (by show 48 + k < 256; omega)]
theorem decDigits_all (u : Nat) : ∀ b ∈ Lib.decDigits u, isDg b = true := by
 induction u using Nat.strongRecOn with
 | _ u ih =>
  have one : ∀ k, k < 10 → isDg (UInt8.ofNat (48 + k)) = true := fun k hk => by
   unfold isDg
   rw [dg_of hk]
   simp
   omega
  intro b hb
  rw [Lib.decDigits] at hb
  split at hb
  ·rename_i h
   simp only [List.mem_singleton] at hb
   rw [hb]; exact one _ h
  rename_i h
  rw [List.mem_append, List.mem_singleton] at hb
  rcases hb with hb | rfl
  ·exact ih (u / 10) (by omega) b hb
  exact one _ (by omega)
theorem decDigits_ne (u : Nat) : Lib.decDigits u ≠ [] := by
 rw [Lib.decDigits]
 split <;> simp
theorem parse_append (l : Key) (c : UInt8) : ∀ acc, Lib.parseUint10 acc (l ++ [c]) = match Lib.parseUint10 acc l with
  | .ok a => Lib.parseUint10 a [c]
  | e => e := by
 induction l with
 | nil => intro acc; rfl
 | cons b r ih =>
  intro acc
  show Lib.parseUint10 acc (b :: (r ++ [c])) = _
  simp only [Lib.parseUint10]
  split
  ·split
   ·rfl
   split
   ·rfl
   rw [ih]
   simp only [Lib.parseUint10]
  rfl
theorem parse_dec {u : Nat} (h : u < 1000000000000000000) : Lib.parseUint10 0 (Lib.decDigits u) = .ok u := by
 induction u using Nat.strongRecOn with
 | _ u ih =>
  have one : ∀ a k, k < 10 → a < 100000000000000000 → Lib.parseUint10 a [UInt8.ofNat (48 + k)] = .ok (a * 10 + k) := fun a k hk ha => by
   unfold Lib.parseUint10
   rw [dg_of hk, if_pos (by omega), if_neg (by omega), if_neg (by omega)]
   unfold Lib.parseUint10
   congr 1
   omega
  rw [Lib.decDigits]
  split
  ·rename_i h10
   rw [one 0 u h10 (by omega)]
   congr 1
   omega
  rename_i h10
  rw [parse_append, ih (u / 10) (by omega) (by omega)]
  show Lib.parseUint10 (u / 10) [UInt8.ofNat (48 + u % 10)] = _
  rw [one _ _ (by omega) (by omega)]
  congr 1
  omega
theorem atoi_dec {u : Nat} (h : u < 1000000000000000000) : Lib.atoiAll (Lib.decDigits u) = .ok (u : Int) := by
 have hp := parse_dec h
 have hd := decDigits_all u
 cases e : Lib.decDigits u with
 | nil => exact absurd e (decDigits_ne u)
 | cons c r =>
  have hc := hd c (by rw [e]; exact List.mem_cons_self)
  unfold isDg at hc
  simp only [Bool.and_eq_true, decide_eq_true_eq] at hc
  rw [e] at hp
  unfold Lib.atoiAll
  simp only []
  rw [if_neg (show ¬ (c.toNat = 43 ∨ c.toNat = 45) by omega)]
  unfold Lib.parseMag
  rw [if_neg (by simp), hp]
  simp only []
  rw [if_neg (by omega), if_neg (by omega), if_neg (by omega)]
theorem itoa_pos {n : Int} (h : 0 ≤ n) : Lib.itoa n = Lib.decDigits n.toNat := by
 unfold Lib.itoa
 rw [if_neg (by omega)]
end Go.Proofs.YtehdemcfeoiecaaGreatDoor
namespace Go.Proofs.YtehdemcfeoiecaaGreatDoor
open Go.Firn Go.Firn.Tb
def dgv (b : UInt8) : Nat := b.toNat - 48
def numO (x : Key) : Option Int := match Lib.atoiAll x with
 | .ok n => if Lib.itoa n = x ∧ -999 ≤ n ∧ n ≤ 999 then some n else none
 | _ => none
theorem atoi_itoa {n : Int} (h1 : -999 ≤ n) (h2 : n ≤ 999) : Lib.atoiAll (Lib.itoa n) = .ok n := by
 by_cases h : n < 0
 ·have e : Lib.itoa n = 45 :: Lib.decDigits n.natAbs := by unfold Lib.itoa; rw [if_pos h]
  rw [e]
  unfold Lib.atoiAll
  have h45 : (45 : UInt8).toNat = 45 := rfl
  simp only [h45]
  simp only [or_true, if_true]
  unfold Lib.parseMag
  rw [if_neg (decDigits_ne _), parse_dec (by omega)]
  simp only [not_true, false_and, if_false, true_and]
  rw [if_neg (by omega)]
  congr 1
  omega
 rw [itoa_pos (by omega), atoi_dec (by omega)]
 congr 1
 omega
theorem numO_iff {x : Key} {n : Int} : numO x = some n ↔ (-999 ≤ n ∧ n ≤ 999) ∧ x = Lib.itoa n := by
 constructor
 ·intro h
  unfold numO at h
  split at h
  ·split at h
   ·rename_i m _ hm
    cases h
    exact ⟨hm.2, hm.1.symm⟩
   cases h
  cases h
 rintro ⟨⟨h1, h2⟩, rfl⟩
 unfold numO
 rw [atoi_itoa h1 h2]
 simp only []
 rw [if_pos ⟨trivial, h1, h2⟩]
theorem dec3 {u : Nat} (h : u ≤ 999) : (Lib.decDigits u).length ≤ 3 := by
 rw [Lib.decDigits]
 split
 ·simp
 rw [Lib.decDigits]
 split
 ·simp
 rw [Lib.decDigits]
 rw [dif_pos (by omega)]
 simp
theorem num_len {x : Key} {n : Int} (h : numO x = some n) : 1 ≤ x.length ∧ x.length ≤ 4 := by
 obtain ⟨⟨h1, h2⟩, rfl⟩ := numO_iff.1 h
 unfold Lib.itoa
 split
 ·have := dec3 (u := n.natAbs) (by omega)
  simp; omega
 have := dec3 (u := n.toNat) (by omega)
 have := List.length_pos_iff.2 (decDigits_ne n.toNat)
 omega
def dropK : Key := [100, 114, 111, 112]
def sameK : Key := [115, 97, 109, 101]
def pickK : Key := [112, 105, 99, 107]
def wdDrop : Key → Option Wd
 | [d] => if isDg d then some (.drop (dgv d)) else none
 | _ => none
def wdSame : Key → Option Wd
 | [d, e] => if isDg d && isDg e then some (.same (dgv d) (dgv e)) else none
 | _ => none
def wdPick : Key → Option Wd
 | d :: c :: r => if isDg d && decide (c = 61) then (numO r).map (.pick (dgv d)) else none
 | _ => none
def wdOf (s : Key) : Option Wd :=
 if s = [65] then some (.put 0) else if s = [66] then some (.put 1) else if s = [67] then some (.put 2) else if s = [68] then some (.put 3)
 else if s = [111, 114] then some .orr else if s = [98, 121] then some .byy
 else if s.take 4 = dropK then wdDrop (s.drop 4) else if s.take 4 = sameK then wdSame (s.drop 4) else if s.take 4 = pickK then wdPick (s.drop 4) else none
theorem wd_len {s : Key} {w : Wd} (h : wdOf s = some w) : 1 ≤ s.length ∧ s.length ≤ 10 := by
 unfold wdOf at h
 have big : ∀ {K : Key}, K.length = 4 → s.take 4 = K → (s.drop 4).length ≤ 6 → 1 ≤ s.length ∧ s.length ≤ 10 := by
  intro K hK e hd
  have := congrArg List.length e
  rw [List.length_take, hK] at this
  rw [List.length_drop] at hd
  omega
 split at h
 ·subst_vars; simp
 split at h
 ·subst_vars; simp
 split at h
 ·subst_vars; simp
 split at h
 ·subst_vars; simp
 split at h
 ·subst_vars; simp
 split at h
 ·subst_vars; simp
 split at h
 ·rename_i e
  refine big (by rfl) e ?_
  unfold wdDrop at h
  split at h
  ·rename_i d hd; rw [hd]; simp
  cases h
 split at h
 ·rename_i e
  refine big (by rfl) e ?_
  unfold wdSame at h
  split at h
  ·rename_i d hd; rw [hd]; simp
  cases h
 split at h
 ·rename_i e
  refine big (by rfl) e ?_
  unfold wdPick at h
  split at h
  ·rename_i d c r hd
   rw [hd]
   split at h
   ·cases hn : numO r with
    | none => rw [hn] at h; cases h
    | some n => have := num_len hn; simp; omega
   cases h
  cases h
 cases h
def planQ (ws : List Int) : List Key → List Int → Option (List Wd × List Int)
 | [], p => some ([], p)
 | k :: r, p => match wdOf k with
  | none => none
  | some w => match widW ws w p with
   | none => none
   | some q => (planQ ws r q).map fun x => (w :: x.1, x.2)
theorem planQ_cons (ws : List Int) (k : Key) (r : List Key) (p : List Int) : planQ ws (k :: r) p = match wdOf k with
  | none => none
  | some w => match widW ws w p with
   | none => none
   | some q => (planQ ws r q).map fun x => (w :: x.1, x.2) := rfl
theorem planQ_app (ws : List Int) : ∀ (a b : List Key) (p : List Int), planQ ws (a ++ b) p = match planQ ws a p with
  | none => none
  | some x => (planQ ws b x.2).map fun y => (x.1 ++ y.1, y.2)
 | [], b, p => by
  simp only [planQ, List.nil_append]
  cases planQ ws b p <;> simp
 | k :: r, b, p => by
  show planQ ws (k :: (r ++ b)) p = _
  rw [planQ_cons, planQ_cons]
  cases wdOf k with
  | none => rfl
  | some w =>
   simp only []
   cases widW ws w p with
   | none => rfl
   | some q =>
    simp only []
    rw [planQ_app ws r b q]
    cases planQ ws r q with
    | none => rfl
    | some x =>
     simp only [Option.map_some]
     cases planQ ws b x.2 <;> simp
theorem planQ_snoc (ws : List Int) (a : List Key) (k : Key) (p : List Int) : planQ ws (a ++ [k]) p = match planQ ws a p with
  | none => none
  | some x => match wdOf k with
   | none => none
   | some w => (widW ws w x.2).map fun q => (x.1 ++ [w], q) := by
 rw [planQ_app]
 cases planQ ws a p with
 | none => rfl
 | some x =>
  simp only [planQ]
  cases wdOf k with
  | none => rfl
  | some w =>
   simp only []
   cases widW ws w x.2 <;> simp
theorem planQ_none {ws : List Int} {a : List Key} (b : List Key) {p : List Int} (h : planQ ws a p = none) : planQ ws (a ++ b) p = none := by rw [planQ_app, h]
theorem planQ_len {ws : List Int} : ∀ {a : List Key} {p : List Int} {x : List Wd × List Int}, planQ ws a p = some x → x.1.length = a.length
 | [], p, x, h => by simp [planQ] at h; subst h; rfl
 | k :: r, p, x, h => by
  unfold planQ at h
  split at h
  ·cases h
  split at h
  ·cases h
  rename_i q _
  cases e : planQ ws r q with
  | none => rw [e] at h; cases h
  | some y =>
   rw [e] at h
   have := planQ_len e
   simp at h
   subst h
   simp [this]
theorem planQ_words {ws : List Int} : ∀ {a : List Key} {p : List Int} {x : List Wd × List Int}, planQ ws a p = some x → ∀ k ∈ a, ∃ w, wdOf k = some w
 | [], p, x, h, k, hk => by cases hk
 | k :: r, p, x, h, j, hj => by
  unfold planQ at h
  split at h
  ·cases h
  rename_i w hw
  split at h
  ·cases h
  rename_i q _
  cases e : planQ ws r q with
  | none => rw [e] at h; cases h
  | some y =>
   rcases List.mem_cons.1 hj with rfl | hj
   ·exact ⟨w, hw⟩
   exact planQ_words e j hj
theorem planQ_planW {ws : List Int} : ∀ {a : List Key} {p : List Int} {x : List Wd × List Int}, planQ ws a p = some x → planW ws x.1 p = some x.2
 | [], p, x, h => by simp [planQ] at h; subst h; rfl
 | k :: r, p, x, h => by
  rw [planQ_cons] at h
  cases hw : wdOf k with
  | none => rw [hw] at h; cases h
  | some w =>
   rw [hw] at h
   simp only [] at h
   cases hq : widW ws w p with
   | none => rw [hq] at h; cases h
   | some q =>
    rw [hq] at h
    simp only [] at h
    cases e : planQ ws r q with
    | none => rw [e] at h; cases h
    | some y =>
     rw [e] at h
     simp only [Option.map_some, Option.some.injEq] at h
     subst h
     show planW ws (w :: y.1) p = some y.2
     unfold planW
     rw [hq]
     exact planQ_planW e
def qry (ws : List Int) (q : Key) : Option (List Wd × Int) :=
 match planQ ws (splitK 32 q) [] with
 | none => none
 | some x => if x.1.length ≤ 12 ∧ x.2.length = 1 then some (x.1, x.2.getD 0 0) else none
theorem split_total (c : UInt8) : ∀ K : Key, K.length + 1 = ((splitK c K).map fun p => p.length + 1).sum
 | [] => by simp [splitK]
 | b :: r => by
  have ih := split_total c r
  unfold splitK
  split
  ·simp at ih ⊢; omega
  obtain ⟨h, t, e⟩ := splitK_cons c r
  rw [e] at ih ⊢
  simp at ih ⊢
  omega
theorem sum_le {N : Nat} : ∀ {L : List Key}, (∀ k ∈ L, k.length ≤ N) → (L.map fun p => p.length + 1).sum ≤ L.length * (N + 1)
 | [], _ => by simp
 | k :: r, h => by
  have h1 := h k List.mem_cons_self
  have h2 := sum_le fun j hj => h j (List.mem_cons_of_mem k hj)
  simp only [List.map_cons, List.sum_cons, List.length_cons]
  rw [Nat.add_mul]
  omega
theorem qry_len {ws : List Int} {q : Key} {x : List Wd × Int} (h : qry ws q = some x) : q.length ≤ 144 := by
 unfold qry at h
 split at h
 ·cases h
 rename_i y hy
 split at h
 ·rename_i hl
  have h1 := planQ_len hy
  have h2 := split_total 32 q
  have h3 := sum_le (N := 10) fun k hk => by
   obtain ⟨w, hw⟩ := planQ_words hy k hk
   exact (wd_len hw).2
  omega
 cases h
def vL (L : SL) : Bool := vS (sx L) (sy L) L.length
theorem vL_iff {L : SL} : vL L = true ↔ VL L ∧ overL L = false := by
 unfold vL
 rw [vS_iff, ofS_sx]
theorem over_iff {L : SL} : overL L = false ↔ (∀ x ∈ L, x.2 ≤ 100000 ∧ x.1.length ≤ 12) ∧ L.length ≤ 40 := by
 unfold overL
 rw [Bool.or_eq_false_iff, List.any_eq_false, decide_eq_false_iff_not]
 constructor
 ·rintro ⟨h1, h2⟩
  refine ⟨fun x hx => ?_, by omega⟩
  have := h1 x hx
  simp only [Bool.or_eq_true, decide_eq_true_eq, not_or] at this
  omega
 rintro ⟨h1, h2⟩
 refine ⟨fun x hx => ?_, by omega⟩
 have := h1 x hx
 simp only [Bool.or_eq_true, decide_eq_true_eq, not_or]
 omega
def okV (x : Int) : Bool := btw (-999) x 999
def rw0 (T : Tbl SL) (i : Nat) : List Int × SL := T.getD i ([], [])
def vRow (W : Int) (T : Tbl SL) (i : Nat) : Bool :=
 decide (((rw0 T i).1.length : Int) = W) && (rw0 T i).1.all okV && vL (rw0 T i).2 && decide ((rw0 T i).2.length ≠ 0) && (decide (i = 0) || decide ((rw0 T (i - 1)).1 < (rw0 T i).1))
def vRowsK (W : Int) (T : Tbl SL) (k : Nat) : Bool := (List.range k).all (vRow W T)
theorem vRowsK_zero (W : Int) (T : Tbl SL) : vRowsK W T 0 = true := rfl
theorem vRowsK_succ (W : Int) (T : Tbl SL) (k : Nat) : vRowsK W T (k + 1) = (vRowsK W T k && vRow W T k) := by
 unfold vRowsK
 rw [List.range_succ, List.all_append]
 simp
theorem vRowsK_stop {W : Int} {T : Tbl SL} {k n : Nat} (hk : k < n) (h : vRow W T k = false) : vRowsK W T n = false := by
 unfold vRowsK
 rw [List.all_eq_false]
 exact ⟨k, List.mem_range.2 hk, by simp [h]⟩
theorem vRowsK_at {W : Int} {T : Tbl SL} {k n : Nat} (h : vRowsK W T n = true) (hk : k < n) : vRow W T k = true := by
 unfold vRowsK at h
 rw [List.all_eq_true] at h
 exact h k (List.mem_range.2 hk)
def vTab (W : Int) (T : Tbl SL) : Bool := vRowsK W T T.length && btw 1 W 4 && decide (T.length ≤ 60)
def vTabs (Ts : List (Int × Tbl SL)) : Bool := (Ts.all fun x => vTab x.1 x.2) && decide (1 ≤ Ts.length) && decide (Ts.length ≤ 4)
theorem rw0_mem {T : Tbl SL} {i : Nat} (h : i < T.length) : rw0 T i ∈ T := by
 unfold rw0
 rw [List.getD_eq_getElem?_getD, List.getElem?_eq_getElem h]
 exact List.getElem_mem h
theorem rw0_get {T : Tbl SL} {i : Nat} {r : List Int × SL} (h : T[i]? = some r) : rw0 T i = r := by
 unfold rw0
 rw [List.getD_eq_getElem?_getD, h]
 rfl
theorem vRow_iff {W : Int} {T : Tbl SL} {i : Nat} : vRow W T i = true ↔ ((rw0 T i).1.length : Int) = W ∧ (∀ x ∈ (rw0 T i).1, -999 ≤ x ∧ x ≤ 999) ∧ vL (rw0 T i).2 = true ∧ (rw0 T i).2 ≠ [] ∧ (i = 0 ∨ (rw0 T (i - 1)).1 < (rw0 T i).1) := by
 unfold vRow
 simp only [Bool.and_eq_true, Bool.or_eq_true, decide_eq_true_eq, List.all_eq_true, okV, btw, and_assoc, ne_eq, List.length_eq_zero_iff]
def G0 (L : SL) : Prop := vL L = true ∧ L ≠ []
theorem srt_adj : ∀ {T : Tbl SL}, (∀ i, i + 1 < T.length → (rw0 T i).1 < (rw0 T (i + 1)).1) → SrT T
 | [], _ => List.Pairwise.nil
 | [x], _ => by simp [SrT]
 | x :: y :: r, h => by
  have h1 : SrT (y :: r) := srt_adj fun i hi => h (i + 1) (by simp at hi ⊢; omega)
  have h0 : x.1 < y.1 := h 0 (by simp)
  refine List.Pairwise.cons (fun z hz => ?_) h1
  rcases List.mem_cons.1 hz with rfl | hz
  ·exact h0
  exact List.lt_trans h0 ((List.pairwise_cons.1 h1).1 z hz)
theorem mem_rw0 {T : Tbl SL} {r : List Int × SL} (h : r ∈ T) : ∃ i, i < T.length ∧ rw0 T i = r := by
 obtain ⟨i, hi, rfl⟩ := List.getElem_of_mem h
 exact ⟨i, hi, rw0_get (List.getElem?_eq_getElem hi)⟩
theorem vTab_iff {W : Int} {T : Tbl SL} : vTab W T = true ↔ (∀ i, i < T.length → vRow W T i = true) ∧ (1 ≤ W ∧ W ≤ 4) ∧ T.length ≤ 60 := by
 unfold vTab
 simp only [Bool.and_eq_true, decide_eq_true_eq, btw, and_assoc]
 constructor
 ·rintro ⟨h, k⟩
  exact ⟨fun i hi => vRowsK_at h hi, k⟩
 rintro ⟨h, k⟩
 refine ⟨?_, k⟩
 unfold vRowsK
 rw [List.all_eq_true]
 exact fun i hi => h i (List.mem_range.1 hi)
theorem vTab_TG {W : Int} {T : Tbl SL} (h : vTab W T = true) : TG G0 W T ∧ ∀ r ∈ T, ∀ x ∈ r.1, -999 ≤ x ∧ x ≤ 999 := by
 obtain ⟨h1, h2, h3⟩ := vTab_iff.1 h
 refine ⟨⟨h2, srt_adj fun i hi => ?_, fun r hr => ?_, h3, fun r hr => ?_⟩, fun r hr => ?_⟩
 ·have := (vRow_iff.1 (h1 (i + 1) hi)).2.2.2.2
  rcases this with k | k
  ·omega
  simpa using k
 ·obtain ⟨i, hi, rfl⟩ := mem_rw0 hr
  have := (vRow_iff.1 (h1 i hi)).1
  omega
 ·obtain ⟨i, hi, rfl⟩ := mem_rw0 hr
  have := vRow_iff.1 (h1 i hi)
  exact ⟨this.2.2.1, this.2.2.2.1⟩
 obtain ⟨i, hi, rfl⟩ := mem_rw0 hr
 exact (vRow_iff.1 (h1 i hi)).2.1
theorem vTab_of {W : Int} {T : Tbl SL} (h : TG G0 W T) (hv : ∀ r ∈ T, ∀ x ∈ r.1, -999 ≤ x ∧ x ≤ 999) : vTab W T = true := by
 refine vTab_iff.2 ⟨fun i hi => ?_, h.w1, h.len⟩
 have hm := rw0_mem hi
 refine vRow_iff.2 ⟨?_, hv _ hm, (h.gd _ hm).1, (h.gd _ hm).2, ?_⟩
 ·have := h.wd _ hm
  have := h.w1
  omega
 rcases Nat.eq_zero_or_pos i with k | k
 ·exact .inl k
 refine .inr ?_
 have := List.pairwise_iff_getElem.1 h.srt (i - 1) i (by omega) hi (by omega)
 unfold rw0
 rw [List.getD_eq_getElem?_getD, List.getD_eq_getElem?_getD, List.getElem?_eq_getElem hi, List.getElem?_eq_getElem (by omega : i - 1 < T.length)]
 exact this
theorem vTabs_iff {Ts : List (Int × Tbl SL)} : vTabs Ts = true ↔ (∀ x ∈ Ts, vTab x.1 x.2 = true) ∧ 1 ≤ Ts.length ∧ Ts.length ≤ 4 := by
 unfold vTabs
 simp only [Bool.and_eq_true, decide_eq_true_eq, List.all_eq_true, and_assoc]
theorem TG.map {E : Type} {G : SL → Prop} {G' : E → Prop} {W : Int} {T : Tbl SL} {φ : SL → E} (h : TG G W T) (hφ : ∀ L, G L → G' (φ L)) : TG G' W (mapT φ T) where
 w1 := h.w1
 srt := by
  unfold mapT SrT
  rw [List.pairwise_map]
  exact h.srt
 wd := fun x hx => by
  obtain ⟨y, hy, rfl⟩ := List.mem_map.1 hx
  exact h.wd y hy
 len := by unfold mapT; rw [List.length_map]; exact h.len
 gd := fun x hx => by
  obtain ⟨y, hy, rfl⟩ := List.mem_map.1 hx
  exact hφ _ (h.gd y hy)
def tabsOf {E : Type} (φ : SL → E) (Ts : List (Int × Tbl SL)) : List (Tbl E) := Ts.map fun x => mapT φ x.2
def wsOf (Ts : List (Int × Tbl SL)) : List Int := Ts.map (·.1)
theorem tabsOf_at {E : Type} {φ : SL → E} {Ts : List (Int × Tbl SL)} {k : Nat} {WT : Int × Tbl SL} (h : Ts[k]? = some WT) : (tabsOf φ Ts).getD k [] = mapT φ WT.2 ∧ (wsOf Ts).getD k 0 = WT.1 := by
 unfold tabsOf wsOf
 rw [List.getD_eq_getElem?_getD, List.getD_eq_getElem?_getD, List.getElem?_map, List.getElem?_map, h]
 exact ⟨rfl, rfl⟩
theorem tabs_GI {E : Type} {φ : SL → E} {G' : E → Prop} {Ts : List (Int × Tbl SL)} (h : vTabs Ts = true) (hφ : ∀ L, G0 L → G' (φ L)) : GI G' (wsOf Ts) (tabsOf φ Ts) := by
 refine ⟨by simp [wsOf, tabsOf], fun i hi => ?_⟩
 have hi' : i < Ts.length := by simpa [wsOf] using hi
 obtain ⟨e1, e2⟩ := tabsOf_at (φ := φ) (List.getElem?_eq_getElem hi')
 rw [e1, e2]
 exact TG.map (vTab_TG ((vTabs_iff.1 h).1 _ (List.getElem_mem hi'))).1 hφ
abbrev MX : Int := 1000000000000000
def GC (n : Int) : Prop := 0 ≤ n ∧ n ≤ MX + 1
def GK (n : Int) : Prop := 0 ≤ n ∧ n ≤ 2 * MX
def G2 (d : SL × Int) : Prop := d.1 = [] ∧ GC d.2
def G3 (d : SL × Int) : Prop := d.1 = [] ∧ GK d.2
def ansQ {D : Type} (R : Rg D) (tabs : List (Tbl D)) (ws : List Wd) : Option (Tbl D) := (Tb.runT R tabs ws []).map fun p => p.getD 0 []
end Go.Proofs.YtehdemcfeoiecaaGreatDoor
namespace Go.Firn.Tb
section
variable {D : Type}
theorem set_get {α : Type} {T : List α} {k : Nat} {x : α} (h : T[k]? = some x) (y : α) : T.set k y = T.take k ++ y :: T.drop (k + 1) := by
 obtain ⟨hk, e⟩ := List.getElem?_eq_some_iff.1 h
 rw [List.set_eq_take_append_cons_drop, if_pos hk]
end
end Go.Firn.Tb
namespace Go.Proofs.YtehdemcfeoiecaaGreatDoor
open Go.Firn Go.Firn.Tb
def RgS : Rg SL := ⟨plusL, timesL, fun L => decide (L ≠ []), fun L => !overL L⟩
def GS (L : SL) : Prop := VL L ∧ (∀ x ∈ L, x.1.length ≤ 24) ∧ L ≠ []
theorem GS.of {L : SL} (h : G0 L) : GS L := by
 obtain ⟨h1, h2⟩ := vL_iff.1 h.1
 exact ⟨h1, fun x hx => Nat.le_trans ((over_iff.1 h2).1 x hx).2 (by decide), h.2⟩
theorem put_len {k : Key} {n : Int} {N : Nat} : ∀ {L : SL}, (∀ x ∈ L, x.1.length ≤ N) → k.length ≤ N → ∀ x ∈ putL k n L, x.1.length ≤ N := fun {L} h hk x hx => by
 rcases mem_put hx with e | e
 ·rw [e]; exact hk
 exact h x e
theorem plus_len {N : Nat} : ∀ {t s : SL}, (∀ x ∈ s, x.1.length ≤ N) → (∀ x ∈ t, x.1.length ≤ N) → ∀ x ∈ plusL s t, x.1.length ≤ N
 | [], _, hs, _ => hs
 | y :: r, s, hs, ht => plus_len (t := r) (s := putL y.1 y.2 s) (put_len hs (ht y List.mem_cons_self)) fun x hx => ht x (List.mem_cons_of_mem y hx)
theorem lawS : RgL RgS GS where
 gadd := fun a b ha hb => ⟨ha.1.plus hb.1, plus_len ha.2.1 hb.2.1, fun e => ha.2.2 ((plus_empty hb.1.2.1).1 e).1⟩
 gmul := fun a b ha hb _ _ fa fb => by
  have fa' : overL a = false := by simpa [RgS] using fa
  have fb' : overL b = false := by simpa [RgS] using fb
  refine ⟨ha.1.times hb.1, fun x hx => ?_, fun e => ?_⟩
  ·obtain ⟨p, q, hp, hq, e⟩ := (hasK_times ha.1.2.1 hb.1.2.1).1 ⟨x, hx, rfl⟩
   obtain ⟨y, hy, rfl⟩ := hp
   obtain ⟨z, hz, rfl⟩ := hq
   rw [e, mx_length]
   have := ((over_iff.1 fa').1 y hy).2
   have := ((over_iff.1 fb').1 z hz).2
   omega
  rcases (times_empty ha.1.2.1 hb.1.2.1).1 e with e | e
  ·exact ha.2.2 e
  exact hb.2.2 e
 sadd := fun a b ha hb _ _ => by
  show decide (plusL a b ≠ []) = true
  rw [decide_eq_true_eq]
  exact fun e => ha.2.2 ((plus_empty hb.1.2.1).1 e).1
 smul := fun a b ha hb _ _ _ _ => by
  show decide (timesL a b ≠ []) = true
  rw [decide_eq_true_eq]
  exact fun e => by
   rcases (times_empty ha.1.2.1 hb.1.2.1).1 e with e | e
   ·exact ha.2.2 e
   exact hb.2.2 e
end Go.Proofs.YtehdemcfeoiecaaGreatDoor
