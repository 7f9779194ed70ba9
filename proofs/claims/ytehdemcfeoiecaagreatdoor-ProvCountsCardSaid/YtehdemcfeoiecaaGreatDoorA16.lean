import Derived.Test.YtehdemcfeoiecaaGreatDoorA14
import Derived.Test.YtehdemcfeoiecaaGreatDoorA15
set_option maxHeartbeats 64000000
set_option maxRecDepth 100000
namespace Go.Proofs.YtehdemcfeoiecaaGreatDoor
open Go.RowKit Go.Firn Go.Firn.Tb RE
theorem byR_len {D : Type} (R : Rg D) (mulR : D → D → D) (v : Tbl D) : ∀ (u out : Tbl D), out.length ≤ 60 → (byR R mulR v u out).length ≤ 60 + v.length
 | [], out, h => by
  show out.length ≤ _
  omega
 | x :: r, out, h => by
  rw [byR_cons]
  split
  ·rename_i ho
   exact byR_len R mulR v r _ (okT_le ho).1
  have h1 := plcs_len R.add (join1 mulR x v) out
  have h2 := join1_len mulR x v
  omega
theorem pi_at {D : Type} {R : Rg D} {G : D → Prop} {pw : List Int} {p : List (Tbl D)} (hp : PI R G pw p) {i : Nat} (hi : i < p.length) : TI R G (pw.getD i 0) (p.getD i []) := hp.2 i (by rw [← hp.1]; exact hi)
theorem widW_takes {ws pw qw : List Int} {wd : Wd} (h : widW ws wd pw = some qw) : takesW wd ≤ pw.length := by
 unfold widW at h
 cases wd <;> simp only [] at h <;> unfold takesW
 case put n => exact Nat.zero_le _
 all_goals (split at h; (· cases h); simp only []; omega)
theorem tabR_len {D : Type} {R : Rg D} {G : D → Prop} {mulR : D → D → D} {beg : List (Tbl D)} {pw qw ws : List Int} {p : List (Tbl D)} (hp : PI R G pw p) {wd : Wd} (hw : widW ws wd pw = some qw) (hb : ∀ n, (beg.getD n []).length ≤ 60) : (tabR R mulR beg wd p).length ≤ 10000 := by
 have ht := widW_takes hw
 have h1 := hp.1
 have top : ∀ i, i < p.length → (p.getD i []).length ≤ 60 := fun i hi => (okT_le (pi_at hp hi).ok).1
 cases wd with
 | put n => exact Nat.le_trans (hb n) (by omega)
 | orr =>
  unfold takesW at ht
  simp only [] at ht
  refine Nat.le_trans (gat_len R.add _) ?_
  rw [List.length_append]
  have := top (p.length - 2) (by omega)
  have := top (p.length - 1) (by omega)
  omega
 | byy =>
  unfold takesW at ht
  simp only [] at ht
  have k := byR_len R mulR (p.getD (p.length - 1) []) (p.getD (p.length - 2) []) [] (by simp)
  have := top (p.length - 1) (by omega)
  show (byR R mulR (p.getD (p.length - 1) []) (p.getD (p.length - 2) []) []).length ≤ _
  omega
 | drop n =>
  unfold takesW at ht
  simp only [] at ht
  refine Nat.le_trans (gat_len R.add _) ?_
  rw [List.length_map]
  have := top (p.length - 1) (by omega)
  omega
 | pick n m =>
  unfold takesW at ht
  simp only [] at ht
  refine Nat.le_trans (List.length_filter_le _ _) ?_
  have := top (p.length - 1) (by omega)
  omega
 | same n m =>
  unfold takesW at ht
  simp only [] at ht
  refine Nat.le_trans (List.length_filter_le _ _) ?_
  have := top (p.length - 1) (by omega)
  omega
theorem done_any (how : Int) (hh : how = 2 ∨ how = 3) {mul : SL × Int → SL × Int → SL × Int} {st : SL × Int → Bool} {G : SL × Int → Prop} (hY : ∀ T W, TI (RgH how mul st) G W T → ∀ q ∈ T, Yb q.2 ∧ (how = 2 → 1 ≤ q.2.2))
  {ws pw qw : List Int} {p : List (Tbl (SL × Int))} {wd : Wd} (hp : PI (RgH how mul st) G pw p) (hw : widW ws wd pw = some qw) (hn : takesW wd ≠ 0) (beg : List (Tbl (SL × Int))) (W : World) (ua : Option Addr) (un uc : Nat) (va : Option Addr) (vn vc : Nat)
  (hv : RdT W W va vn vc (p.getD (p.length - 1) [])) (hu : takesW wd = 2 → RdT W W ua un uc (p.getD (p.length - 2) [])) :
  Calls Tryz.prog 84 #[.slice ua un uc, .slice va vn vc, .agg #[.int .i64 (rwd wd).1, .int .i64 (rwd wd).2.1, .int .i64 (rwd wd).2.2], .int .i64 how] W (RetDn (tabR (RgH how mul st) (mulH how) beg wd p) W) := by
 have ht := widW_takes hw
 have h1 := hp.1
 have t1 : 1 ≤ p.length → TI (RgH how mul st) G (pw.getD (p.length - 1) 0) (p.getD (p.length - 1) []) := fun h => pi_at hp (by omega)
 have t2 : 2 ≤ p.length → TI (RgH how mul st) G (pw.getD (p.length - 2) 0) (p.getD (p.length - 2) []) := fun h => pi_at hp (by omega)
 have len : ∀ {T W}, TI (RgH how mul st) G W T → T.length ≤ 1000 := fun h => Nat.le_trans (okT_le h.ok).1 (by omega)
 have wid : ∀ {T W}, TI (RgH how mul st) G W T → ∀ q ∈ T, 1 ≤ q.1.length ∧ q.1.length ≤ 1000 ∧ q.1.length = W.toNat := fun {T W} h q hq => by
  have := h.wd q hq
  have := h.w1
  omega
 cases wd with
 | put n => exact absurd rfl hn
 | orr =>
  simp only [takesW] at ht hu
  have T1 := t1 (by omega)
  have T2 := t2 (by omega)
  exact done_or how hh W ua un uc _ va vn vc _ (hu trivial) hv ⟨len T2, len T1⟩ (fun q hq => (hY _ _ T2 q hq).1) (fun q hq => (hY _ _ T1 q hq).1)
 | byy =>
  simp only [takesW] at ht hu
  have T1 := t1 (by omega)
  have T2 := t2 (by omega)
  exact done_by how hh W ua un uc _ va vn vc _ (hu trivial) hv ⟨len T2, len T1⟩ (fun q hq => ⟨(hY _ _ T2 q hq).1, (wid T2 q hq).1, (wid T2 q hq).2.1⟩) (fun q hq => ⟨(hY _ _ T1 q hq).1, (hY _ _ T1 q hq).2, (wid T1 q hq).1, (wid T1 q hq).2.1⟩)
 | drop n =>
  simp only [takesW] at ht
  have T1 := t1 (by omega)
  unfold widW at hw
  simp only [] at hw
  split at hw
  ·cases hw
  split at hw
  ·rename_i hk
   rw [← h1] at hk
   exact done_drop how hh n W ua un uc va vn vc _ hv (len T1) (fun q hq => ⟨by have := (wid T1 q hq).2.2; omega, (wid T1 q hq).2.1⟩) (fun q hq => (hY _ _ T1 q hq).1)
  cases hw
 | pick n m =>
  simp only [takesW] at ht
  have T1 := t1 (by omega)
  unfold widW at hw
  simp only [] at hw
  split at hw
  ·cases hw
  split at hw
  ·rename_i hk
   rw [← h1] at hk
   exact done_pick how n m W ua un uc va vn vc _ hv (len T1) (fun q hq => by have := (wid T1 q hq).2.2; omega)
  cases hw
 | same n m =>
  simp only [takesW] at ht
  have T1 := t1 (by omega)
  unfold widW at hw
  simp only [] at hw
  split at hw
  ·cases hw
  split at hw
  ·rename_i hk
   rw [← h1] at hk
   exact done_same how n m W ua un uc va vn vc _ hv (len T1) (fun q hq => ⟨by have := (wid T1 q hq).2.2; omega, by have := (wid T1 q hq).2.2; omega⟩)
  cases hw
end Go.Proofs.YtehdemcfeoiecaaGreatDoor
namespace Go.Firn.Tb
section
variable {D : Type}
theorem sumT_le {μ : D → Nat} {b : Nat} : ∀ {L : Tbl D}, (∀ x ∈ L, μ x.2 ≤ b) → sumT μ L ≤ L.length * b
 | [], _ => by simp [sumT]
 | x :: r, h => by
  have h1 := h x List.mem_cons_self
  have h2 := sumT_le fun y hy => h y (List.mem_cons_of_mem x hy)
  rw [sumT_cons, List.length_cons, Nat.add_mul]
  omega
structure MuB (R : Rg D) (G : D → Prop) (μ : D → Nat) (b : Nat) (tabs : List (Tbl D)) : Prop where
 fit : ∀ d, G d → R.fits d = true → μ d ≤ b
 mul : ∀ x y, G x → G y → R.stays x = true → R.stays y = true → R.fits x = true → R.fits y = true → μ (R.mul x y) ≤ b
 beg : ∀ T ∈ tabs, ∀ x ∈ T, μ x.2 ≤ b
theorem rows_mu {R : Rg D} {G : D → Prop} {μ : D → Nat} {b : Nat} {ws pw qw : List Int} {tabs p : List (Tbl D)} {w : Wd} (hb : MuB R G μ b tabs) (hp : PI R G pw p) (_hg : GI G ws tabs) (_hw : widW ws w pw = some qw) : ∀ x ∈ rowsW R.mul tabs w p, μ x.2 ≤ b := by
 have l1 := hp.1
 have top : ∀ i, i < p.length → ∀ x ∈ p.getD i [], G x.2 ∧ R.stays x.2 = true ∧ R.fits x.2 = true := fun i hi x hx => by
  have h := hp.2 i (by omega)
  exact ⟨h.gd x hx, h.st x hx, (okT_le h.ok).2 x hx⟩
 have one : ∀ i, ∀ x ∈ p.getD i [], i < p.length := fun i x hx => by
  rcases Nat.lt_or_ge i p.length with k | k
  ·exact k
  rw [List.getD_eq_getElem?_getD, List.getElem?_eq_none k] at hx; cases hx
 have kept : ∀ w : Wd, ∀ z ∈ (((p.getD (p.length - 1) []).filter fun x => keepsW w x.1).map fun x => (colsW w x.1, x.2)), μ z.2 ≤ b := fun w z hz => by
  obtain ⟨x, hx, rfl⟩ := List.mem_map.1 hz
  have hx' := (List.mem_filter.1 hx).1
  have := top _ (one _ x hx') x hx'
  exact hb.fit _ this.1 this.2.2
 cases w with
 | put n =>
  intro x hx
  have hn : n < tabs.length := by
   rcases Nat.lt_or_ge n tabs.length with k | k
   ·exact k
   have hx' : x ∈ tabs.getD n [] := hx
   rw [List.getD_eq_getElem?_getD, List.getElem?_eq_none k] at hx'; cases hx'
  have hm : tabs.getD n [] ∈ tabs := by
   rw [List.getD_eq_getElem?_getD, List.getElem?_eq_getElem hn]
   exact List.getElem_mem hn
  exact hb.beg _ hm x hx
 | orr =>
  intro x hx
  rcases List.mem_append.1 hx with hx | hx
  ·have := top _ (one _ x hx) x hx; exact hb.fit _ this.1 this.2.2
  have := top _ (one _ x hx) x hx; exact hb.fit _ this.1 this.2.2
 | byy =>
  intro z hz
  obtain ⟨x, hx, y, hy, _, rfl⟩ := join_mem hz
  have h1 := top _ (one _ x hx) x hx
  have h2 := top _ (one _ y hy) y hy
  exact hb.mul _ _ h1.1 h2.1 h1.2.1 h2.2.1 h1.2.2 h2.2.2
 | drop n => exact kept (.drop n)
 | pick n m => exact kept (.pick n m)
 | same n m => exact kept (.same n m)
theorem runT_cons (R : Rg D) (tabs : List (Tbl D)) (w : Wd) (r : List Wd) (p : List (Tbl D)) : Tb.runT R tabs (w :: r) p = if okT R (gath R (rowsW R.mul tabs w p)) then Tb.runT R tabs r (restW w p ++ [gath R (rowsW R.mul tabs w p)]) else none := rfl
theorem planW_cons {ws : List Int} {w : Wd} {r : List Wd} {p q : List Int} (h : planW ws (w :: r) p = some q) : ∃ p', widW ws w p = some p' ∧ planW ws r p' = some q := by
 unfold planW at h
 split at h
 ·cases h
 rename_i p' hp; exact ⟨p', hp, h⟩
end
end Go.Firn.Tb
namespace Go.Proofs.YtehdemcfeoiecaaGreatDoor
open Go.RowKit Go.Firn Go.Firn.Tb RE
structure RunOk (how : Int) (l : Nat → Int) (la : Option Addr) (ln lc : Nat) (Ts : List (Int × Tbl SL)) (R : Rg (SL × Int)) (G : SL × Int → Prop) (tabs : List (Tbl (SL × Int))) (w : World) : Prop where
 hL : RgL R G
 hm : MulR R G (mulH how)
 hg : GI G (wsOf Ts) tabs
 hb : ∀ n, n < (wsOf Ts).length → (Ts.map fun y => begH how l y.2).getD n [] = gath R (tabs.getD n [])
 hl : ∀ n, ((Ts.map fun y => begH how l y.2).getD n []).length ≤ 60
 beg : ∀ n (hn : n < Ts.length) W, Gr w W → ∀ a1 n1 cc1, RdW W a1 n1 cc1 Ts[n].2 → Calls Tryz.prog 83 #[.agg #[.int .i64 Ts[n].1, .slice a1 n1 cc1], .int .i64 how, .slice la ln lc] W (RetBg how l Ts[n].2 W)
 make : ∀ {pw qw : List Int} {p : List (Tbl (SL × Int))} {wd : Wd}, PI R G pw p → widW (wsOf Ts) wd pw = some qw → takesW wd ≠ 0 → ∀ (W : World) (ua : Option Addr) (un uc : Nat) (va : Option Addr) (vn vc : Nat),
  RdT W W va vn vc (p.getD (p.length - 1) []) → (takesW wd = 2 → RdT W W ua un uc (p.getD (p.length - 2) [])) →
  Calls Tryz.prog 84 #[.slice ua un uc, .slice va vn vc, .agg #[.int .i64 (rwd wd).1, .int .i64 (rwd wd).2.1, .int .i64 (rwd wd).2.2], .int .i64 how] W (RetDn (tabR R (mulH how) (Ts.map fun y => begH how l y.2) wd p) W)
 much : ∀ (w0 W : World) (v : Value) (raw : List Rw) (T : Tbl (SL × Int)), OwnR w0 W v raw → Dat w0 W raw T → T.length ≤ 10000 → Calls Tryz.prog 85 #[v, .int .i64 how] W (RetB (!okT R T) W)
def RetRn (r : Option (Tbl (SL × Int))) (w : World) (e : Ending) (w' : World) : Prop := match r with
 | none => e = .returned (.tuple #[.slice none 0 0, .int .i64 4]) ∧ Gr w w'
 | some T => ∃ a n c, e = .returned (.tuple #[.slice a n c, .int .i64 0]) ∧ RdT w' w' a n c T ∧ Gr w w'
theorem begR_len (how : Int) (l : Nat → Int) (T : Tbl SL) : (begH how l T).length ≤ T.length := by
 unfold begH mapT
 exact Nat.le_trans (List.length_filter_le _ _) (by rw [List.length_map]; exact Nat.le_refl _)
theorem runR_cons {D : Type} (R : Rg D) (mulR : D → D → D) (beg : List (Tbl D)) (w : Wd) (r : List Wd) (p : List (Tbl D)) : Tb.runR R mulR beg (w :: r) p = if okT R (tabR R mulR beg w p) = true then Tb.runR R mulR beg r (restW w p ++ [tabR R mulR beg w p]) else none := rfl
theorem run_any (how : Int) (l : Nat → Int) (la : Option Addr) (ln lc : Nat) (Ts : List (Int × Tbl SL)) (R : Rg (SL × Int)) (G : SL × Int → Prop) (tabs : List (Tbl (SL × Int))) (w : World) (hK : RunOk how l la ln lc Ts R G tabs w)
  (ta : Option Addr) (tn tc : Nat) (hr : RdWs w ta tn tc Ts) (wa : Option Addr) (wn wc : Nat) (ms : List Wd) (hms : Rd33 w wa wn wc (ms.map rwd)) (hm12 : ms.length ≤ 12) (pz : List Int) (hpl : planW (wsOf Ts) ms [] = some pz) (hz1 : pz.length = 1) :
  Calls Tryz.prog 53 #[.slice ta tn tc, .slice wa wn wc, .int .i64 how, .slice la ln lc] w (RetRn ((Tb.runR R (mulH how) (Ts.map fun y => begH how l y.2) ms []).map fun p => p.getD 0 []) w) := by
 have HK := Lh hK
 have HTs := Lh hr
 have HMs := Lh hms
 have HN := Lh (show wn = ms.length ∧ wn ≤ 12 by
  have := hms.1
  rw [List.length_map] at this
  omega)
 have HZ1 := Lh hz1
 obtain ⟨BG, hBG⟩ : ∃ B, (Ts.map fun y => begH how l y.2) = B := ⟨_, rfl⟩
 have HBG := Lh hBG
 obtain ⟨RS, hRS⟩ : ∃ r, Tb.runR R (mulH how) (Ts.map fun y => begH how l y.2) ms [] = r := ⟨_, rfl⟩
 rw [hRS]
 rw [hBG] at hRS
 have HP0 := Lh (show planW (wsOf Ts) (ms.drop 0) [] = some pz from hpl)
 have HR0 := Lh (show Tb.runR R (mulH how) BG (ms.drop 0) [] = RS from hRS)
 clear hK hr hms hm12 hpl hz1 hRS hBG
 go_enter Tryz.func53, Tryz.ntmps53
 go_wp2_with fail
 go_loopw [17, 10] (fun si sp wr => ∃ (k : Nat) (pa : Option Addr) (pn pc : Nat) (raw : List Sl) (p : List (Tbl (SL × Int))) (pw : List Int), k ≤ wn ∧ si = .int .i64 k ∧ sp = .slice pa pn pc ∧ Hid (RdSl wr pa pn pc raw) ∧ Hid (DatP wr raw p) ∧ Hid (PI R G pw p) ∧ Hid (planW (wsOf Ts) (ms.drop k) pw = some pz) ∧ Hid (Tb.runR R (mulH how) BG (ms.drop k) p = RS) ∧ Hid (p.length ≤ k) ∧ Hid (Gr w wr)) (fun si _ _ => wn - (intOf si).toNat)
 case atStart => exact ⟨0, none, 0, 0, [], [], [], Nat.zero_le _, rfl, rfl, Lh (RdSl.nil _), Lh (DatP.nil _), Lh ⟨rfl, fun i hi => absurd hi (Nat.not_lt_zero i)⟩, HP0, HR0, Lh (Nat.zero_le _), Lh (Gr.refl w)⟩
 case round =>
  obtain ⟨k, pa, pn, pc, raw, p, pw, hk, rfl, rfl, HRP, HDP, HPI, HPL, HRR, HPK, HG⟩ := hrel
  by_cases hlt : k < wn
  ·have i1 : (k : Int) < (wn : Int) := by omega
   obtain ⟨b, x, hwa, hx, z0, z1, z2⟩ := (HMs.out.gr HG.out).at hlt
   subst hwa
   obtain ⟨wd, hwd, hxe⟩ : ∃ wd, ms[k]? = some wd ∧ rwd wd = x := by
    rw [List.getElem?_map] at hx
    cases hm : ms[k]? with
    | none => rw [hm] at hx; cases hx
    | some y => rw [hm] at hx; exact ⟨y, rfl, by simpa using hx⟩
   have hdr : ms.drop k = wd :: ms.drop (k + 1) := by
    obtain ⟨h1, h2⟩ := List.getElem?_eq_some_iff.1 hwd
    rw [List.drop_eq_getElem_cons h1, h2]
   obtain ⟨qw, hqw, hpl2⟩ : ∃ q, widW (wsOf Ts) wd pw = some q ∧ planW (wsOf Ts) (ms.drop (k + 1)) q = some pz := by
    have h := HPL.out
    rw [hdr] at h
    exact planW_cons h
   have HPL2 := Lh hpl2
   have HRr := Lh (show (if okT R (tabR R (mulH how) BG wd p) = true then Tb.runR R (mulH how) BG (ms.drop (k + 1)) (restW wd p ++ [tabR R (mulH how) BG wd p]) else none) = RS by
    have h := HRR.out
    rw [hdr, runR_cons] at h
    exact h)
   have HTi := Lh (show okT R (tabR R (mulH how) BG wd p) = true → PI R G qw (restW wd p ++ [tabR R (mulH how) BG wd p]) from fun ho => by
    have kk := tab_is HK.out.hL HK.out.hm HK.out.hg HK.out.hb HPI.out hqw
    rw [HBG.out] at kk
    rw [kk.1] at ho
    rw [kk.2 ho]
    exact step_PI HK.out.hL HK.out.hg HPI.out hqw ho)
   have HLT := Lh (show (tabR R (mulH how) BG wd p).length ≤ 10000 from tabR_len HPI.out hqw (by rw [← HBG.out]; exact HK.out.hl))
   have HTk := Lh (show takesW wd ≤ pn ∧ pn = p.length ∧ raw.length = pn by
    have h1 := widW_takes hqw
    have h2 := HPI.out.1
    have h3 := HRP.out.1
    have h4 := HDP.out.1
    omega)
   have HMk := Lh (fun (hn : takesW wd ≠ 0) W ua un uc va vn vc (h1 : RdT W W va vn vc (p.getD (p.length - 1) [])) (h2 : takesW wd = 2 → RdT W W ua un uc (p.getD (p.length - 2) [])) => show Calls Tryz.prog 84 #[.slice ua un uc, .slice va vn vc, .agg #[.int .i64 x.1, .int .i64 x.2.1, .int .i64 x.2.2], .int .i64 how] W (RetDn (tabR R (mulH how) BG wd p) W) from by
    have h := HK.out.make HPI.out hqw hn W ua un uc va vn vc h1 h2
    rw [HBG.out, hxe] at h
    exact h)
   have HPn := Lh (show ∀ T, (restW wd p ++ [T]).length ≤ k + 1 from fun T => by
    unfold restW
    rw [List.length_append, List.length_take]
    have := HPK.out
    simp
    omega)
   have Hqw := Lh hqw
   have Hlt := Lh hlt
   have w9 := Lh (show wrap64 ((k : Int) + 1) = ((k + 1 : Nat) : Int) by rw [IntWalk.wrap64_in _ (by have := HN.out; omega)]; omega)
   have HKc := Lh (show raw.length ≤ 100 by
    have h1 := HDP.out.1
    have := HPK.out
    have := HN.out
    omega)
   obtain ⟨RT, hRT⟩ : ∃ T, tabR R (mulH how) BG wd p = T := ⟨_, rfl⟩
   rw [hRT] at HRr HTi HLT HMk
   have HRT := Lh hRT
   clear hx hwd hdr hqw hpl2 hlt HRR hRT
   obtain ⟨x0, x1, x2⟩ := x
   simp only at z0 z1 z2
   by_cases hput : takesW wd = 0
   ·as_aux_lemma =>
    obtain ⟨nt, hwd⟩ : ∃ nt, wd = .put nt := by
     cases wd <;> simp [takesW] at hput
     exact ⟨_, rfl⟩
    have Hsz := Lh (show takesW wd + pn = pn by omega)
    rw [hwd] at hxe
    cases hxe
    have hnt : nt < Ts.length := by
     have h := Hqw.out
     rw [hwd] at h
     unfold widW at h
     simp only [] at h
     split at h
     ·rename_i hh; simpa [wsOf] using hh
     cases h
    obtain ⟨tb, tb2, r, a1, n1, cc1, hta, htr, t0, t1, htw⟩ := (HTs.out.gr HG.out).at (show nt < tn by have := HTs.out.1; omega)
    subst hta
    have htb : tb < wr.heap.size := World.block_lt_of_cell? _ _ t0
    have hrT : r = Ts[nt] := by
     rw [List.getElem?_eq_getElem hnt] at htr
     cases htr; rfl
    subst hrT
    have CB := Lh (fun W (g : Gr wr W) => HK.out.beg nt hnt W (HG.out.trans g) a1 n1 cc1 (htw.gr g))
    have HRb := Lh (show begH how l Ts[nt].2 = RT by
     rw [← HRT.out, ← HBG.out, hwd]
     exact (beg_at hnt).symm)
    have htn : (nt : Int) < (tn : Int) := by have := HTs.out.1; omega
    obtain ⟨xt, hxt⟩ : ∃ xt, Ts[nt].1 = xt := ⟨_, rfl⟩
    rw [hxt] at t0 CB
    clear htr htw hxt hwd hput
    go_upto_region 16 with (go_at_call 83; (refine (CB.out _ ((Gr.refl wr).alloc _)).mono ?_); rintro e w4 ⟨v4, raw4, rfl, h4, d4⟩; rw [HRb.out] at d4; obtain ⟨a4, cc4, rfl, r4⟩ := h4.rd; have HO4 := Lh h4; have HD4 := Lh d4; have HTT := Lh (show RdT w4 w4 a4 raw4.length cc4 RT from RdT.own ⟨raw4, r4, d4⟩); have HG4 := Lh (((Gr.refl wr).alloc _).trans h4.2); clear h4 d4 r4 CB)
    generalize hn4 : raw4.length = n4 at *
    have CT := Lh (HK.out.much _ w4 (.slice a4 n4 cc4) raw4 RT HO4.out HD4.out HLT.out)
    have HT4 := Lh (show RdT w4 w4 a4 n4 cc4 RT from HTT.out)
    cases hok : okT R RT with
    | true =>
     rw [hok] at CT
     have HR2 := Lh ((if_pos hok).symm.trans HRr.out)
     have HP2 := Lh (HTi.out hok)
     clear hok
     go_wp2_with (first
      | (go_at_call 85; (refine CT.out.mono ?_); rintro e w5 ⟨rfl, g5⟩; have G5 := Lh (HG4.out.trans g5); have g5' := Lh g5; have HL0 := Lh (OwnP.lit0 w5); have HRA := Lh (RdSl.take (HRP.out.gr ((HG4.out.trans g5).trans ((Gr.refl w5).alloc (.cells #[] 77)))) (k := pn) (by have := Hsz.out; omega)); have HKb := Lh (show ([] : List Sl).length + pn ≤ 1000000 by have := HKc.out; have := HTk.out; have := Hsz.out; simp; omega); have HKd := Lh (show ([] ++ raw.take pn).length + 1 ≤ 1000000 by have := HKc.out; simp; omega); have e9 := w9.out; clear g5 CT)
      | (at_builtin; refine wpList_cat_sls rfl _ _ 126 rfl Tryz.underlying126 _ [] rfl HL0.out _ pn pc (raw.take pn) rfl HRA.out HKb.out ?_; intro v9 w6 h6 _; have H6 := Lh h6; clear h6 HL0)
      | (at_builtin; go_must (refine wpList_cat_sls rfl _ _ 126 rfl Tryz.underlying126 _ ([] ++ raw.take pn) rfl (H6.out.gr ((Gr.refl w6).alloc (.cells #[.slice a4 n4 cc4] 77))) _ 1 1 [(a4, n4, cc4)] rfl (RdSl.one _ (cell_new1 w6 _ 77)) HKd.out ?_); intro v8 w7 h7 _; obtain ⟨qa, qc, rfl, hr7⟩ := h7.rd; generalize hn7 : ([] ++ raw.take pn ++ [(a4, n4, cc4)]).length = n7 at *; have H7 := Lh h7; have HR7 := Lh hr7; clear h7 hr7 hn7))
     go_roundw
     case rel =>
      have g7 : Gr wr w7 := G5.out.trans H7.out.2
      exact ⟨k + 1, qa, _, qc, _, restW wd p ++ [RT], qw, Hlt.out, by first | rw [e9] | rfl, rfl, HR7, Lh (by
       have hd := ((HDP.out.gr g7).take pn).snoc (x := (a4, n4, cc4)) (T := RT) (((HT4.out.gr (g5'.out.trans H7.out.2)).own))
       unfold restW
       rw [show p.length - takesW wd = pn by have := HTk.out; have := Hsz.out; omega]
       exact hd), HP2, HPL2, HR2, Lh (HPn.out RT), Lh (HG.out.trans g7)⟩
     case measure => first | (rw [e9]; exact fallX Hlt.out) | exact fallX Hlt.out
    | false =>
     rw [hok] at CT
     have HR2 := Lh ((if_neg (by rw [hok]; decide)).symm.trans HRr.out)
     clear hok
     go_wp2_with (go_at_call 85; (refine CT.out.mono ?_); rintro e w5 ⟨rfl, g5⟩; have G5 := Lh (HG4.out.trans g5); clear g5 CT)
     refine bodyPost_ret (v := .tuple #[.slice none 0 0, .int .i64 4]) (by simp [results, Tryz.results53, go_sem]) rfl ?_
     rw [← HR2.out]
     exact ⟨rfl, HG.out.trans G5.out⟩
   by_cases h2 : takesW wd = 2
   ·have hx3 : x0 = 2 ∨ x0 = 3 := by
     cases wd <;> simp [takesW] at h2 <;> cases hxe
     ·exact .inl rfl
     exact .inr rfl
    obtain ⟨k2, hk2⟩ : ∃ k2, takesW wd + k2 = pn := ⟨pn - takesW wd, by have := HTk.out; omega⟩
    obtain ⟨k1, hk1⟩ : ∃ k1, k1 + 1 = pn := ⟨pn - 1, by omega⟩
    have Hsz := Lh hk2
    have Hk1 := Lh hk1
    have Ht2 := Lh h2
    clear hxe hput hk2 hk1 h2
    rcases hx3 with rfl | rfl
    ·as_aux_lemma =>
     obtain ⟨pb, po, u, hpa, hu, cu⟩ := HRP.out.at (show k2 < pn by have := Hsz.out; have := Ht2.out; omega)
     obtain ⟨pb', po', v, hpa2, hv, cv⟩ := HRP.out.at (show k1 < pn by have := Hk1.out; omega)
     subst hpa
     cases hpa2
     have HU := Lh (show RdT wr wr u.1 u.2.1 u.2.2 (p.getD (p.length - 2) []) by
      have h := HDP.out.at hu
      rwa [show k2 = p.length - 2 by have := HTk.out; have := Hsz.out; have := Ht2.out; omega] at h)
     have HV := Lh (show RdT wr wr v.1 v.2.1 v.2.2 (p.getD (p.length - 1) []) by
      have h := HDP.out.at hv
      rwa [show k1 = p.length - 1 by have := HTk.out; have := Hk1.out; omega] at h)
     have CM := Lh (fun W (g : Gr wr W) => HMk.out (by rw [Ht2.out]; decide) W u.1 u.2.1 u.2.2 v.1 v.2.1 v.2.2 (HV.out.gr g).own fun _ => (HU.out.gr g).own)
     have f1 : wrap64 ((pn : Int) - 2) = (k2 : Int) := by rw [IntWalk.wrap64_in _ (by have := HKc.out; have := HTk.out; omega)]; have := Hsz.out; have := Ht2.out; omega
     have f2 : IntKind.i64.wrap ((pn : Int) - 2) = (k2 : Int) := by rw [IntWalk.i64_in _ (by have := HKc.out; have := HTk.out; omega)]; have := Hsz.out; have := Ht2.out; omega
     have f3 : wrap64 ((pn : Int) - 1) = (k1 : Int) := by rw [IntWalk.wrap64_in _ (by have := HKc.out; have := HTk.out; omega)]; have := Hk1.out; omega
     have f4 : IntKind.i64.wrap ((pn : Int) - 1) = (k1 : Int) := by rw [IntWalk.i64_in _ (by have := HKc.out; have := HTk.out; omega)]; have := Hk1.out; omega
     have b1 : (k2 : Int) < (pn : Int) := by have := Hsz.out; have := Ht2.out; omega
     have b2 : (k1 : Int) < (pn : Int) := by have := Hk1.out; omega
     have b3 : (k2 : Int) ≤ (pc : Int) := by have := HRP.out.2.1; omega
     have n1 : k2 < pn := by omega
     have n2 : k1 < pn := by omega
     obtain ⟨ua, un, uc⟩ := u
     obtain ⟨va, vn, vc⟩ := v
     simp only at cu cv CM
     clear hu hv
     go_upto_region 14 with fail
     obtain ⟨wE, hwE⟩ : ∃ W9, wr.alloc (.cells #[.int .i64 2, .int .i64 x1, .int .i64 x2] 128) = W9 := ⟨_, rfl⟩
     rw [hwE]
     have gE : Gr wr wE := hwE ▸ (Gr.refl wr).alloc _
     obtain ⟨e0, e1, e2⟩ : wE.cell? ⟨wr.heap.size, 0, none⟩ = some (.int .i64 2) ∧ wE.cell? ⟨wr.heap.size, 1, none⟩ = some (.int .i64 x1) ∧ wE.cell? ⟨wr.heap.size, 2, none⟩ = some (.int .i64 x2) := by rw [← hwE]; exact box_tri wr _ _ _ 128
     replace cu := gE.cell cu
     replace cv := gE.cell cv
     refine Hg (fun w' => Gr wE w') 14 ?_
     have hS : Gr wE wE.drew := (Gr.refl wE).drew
     obtain ⟨wT, hw9⟩ : ∃ W9, wE.drew = W9 := ⟨_, rfl⟩
     rw [hw9] at hS ⊢
     clear hw9
     refine H12 0 1 2 3 4 5 6 7 8 9 10 11 (c5 e0 e1 e2 cu cv) hS ?_
     refine Hr 12 rfl (fun K hK => ?_)
     go_simp
     refine ⟨trivial, ?_⟩
     refine (callsIn_wide.2 (CM.out _ (gE.trans hS))).mono ?_
     rintro e w4 ⟨v4, raw4, rfl, h4, d4⟩
     obtain ⟨a4, cc4, rfl, r4⟩ := h4.rd
     have HO4 := Lh h4
     have HD4 := Lh d4
     have HTT := Lh (show RdT w4 w4 a4 raw4.length cc4 RT from RdT.own (w0 := wT) ⟨raw4, r4, d4⟩)
     have hS : Gr wE w4 := hS.trans h4.2
     have HG4 := Lh (gE.trans hS)
     refine hK.out _ _ hS ?_
     clear hK K h4 d4 r4 CM
     refine H1 13 tv hS ?_
     refine Hd ?_
     generalize hn4 : raw4.length = n4 at *
     clear hS e0 e1 e2 cu cv gE hwE
     have CT := Lh (HK.out.much _ w4 (.slice a4 n4 cc4) raw4 RT HO4.out HD4.out HLT.out)
     have HT4 := Lh (show RdT w4 w4 a4 n4 cc4 RT from HTT.out)
     cases hok : okT R RT with
     | true =>
      rw [hok] at CT
      have HR2 := Lh ((if_pos hok).symm.trans HRr.out)
      have HP2 := Lh (HTi.out hok)
      clear hok
      go_wp2_with (first
       | (go_at_call 85; (refine CT.out.mono ?_); rintro e w5 ⟨rfl, g5⟩; have G5 := Lh (HG4.out.trans g5); have g5' := Lh g5; have HL0 := Lh (OwnP.lit0 w5); have HRA := Lh (RdSl.take (HRP.out.gr ((HG4.out.trans g5).trans ((Gr.refl w5).alloc (.cells #[] 77)))) (k := k2) (by have := Hsz.out; omega)); have HKb := Lh (show ([] : List Sl).length + k2 ≤ 1000000 by have := HKc.out; have := HTk.out; have := Hsz.out; simp; omega); have HKd := Lh (show ([] ++ raw.take k2).length + 1 ≤ 1000000 by have := HKc.out; simp; omega); have e9 := w9.out; clear g5 CT)
       | (at_builtin; refine wpList_cat_sls rfl _ _ 126 rfl Tryz.underlying126 _ [] rfl HL0.out _ k2 pc (raw.take k2) rfl HRA.out HKb.out ?_; intro v9 w6 h6 _; have H6 := Lh h6; clear h6 HL0)
       | (at_builtin; go_must (refine wpList_cat_sls rfl _ _ 126 rfl Tryz.underlying126 _ ([] ++ raw.take k2) rfl (H6.out.gr ((Gr.refl w6).alloc (.cells #[.slice a4 n4 cc4] 77))) _ 1 1 [(a4, n4, cc4)] rfl (RdSl.one _ (cell_new1 w6 _ 77)) HKd.out ?_); intro v8 w7 h7 _; obtain ⟨qa, qc, rfl, hr7⟩ := h7.rd; generalize hn7 : ([] ++ raw.take k2 ++ [(a4, n4, cc4)]).length = n7 at *; have H7 := Lh h7; have HR7 := Lh hr7; clear h7 hr7 hn7))
      go_roundw
      case rel =>
       have g7 : Gr wr w7 := G5.out.trans H7.out.2
       exact ⟨k + 1, qa, _, qc, _, restW wd p ++ [RT], qw, Hlt.out, by first | rw [e9] | rfl, rfl, HR7, Lh (by
        have hd := ((HDP.out.gr g7).take k2).snoc (x := (a4, n4, cc4)) (T := RT) (((HT4.out.gr (g5'.out.trans H7.out.2)).own))
        unfold restW
        rw [show p.length - takesW wd = k2 by have := HTk.out; have := Hsz.out; omega]
        exact hd), HP2, HPL2, HR2, Lh (HPn.out RT), Lh (HG.out.trans g7)⟩
      case measure => first | (rw [e9]; exact fallX Hlt.out) | exact fallX Hlt.out
     | false =>
      rw [hok] at CT
      have HR2 := Lh ((if_neg (by rw [hok]; decide)).symm.trans HRr.out)
      clear hok
      go_wp2_with (go_at_call 85; (refine CT.out.mono ?_); rintro e w5 ⟨rfl, g5⟩; have G5 := Lh (HG4.out.trans g5); clear g5 CT)
      refine bodyPost_ret (v := .tuple #[.slice none 0 0, .int .i64 4]) (by simp [results, Tryz.results53, go_sem]) rfl ?_
      rw [← HR2.out]
      exact ⟨rfl, HG.out.trans G5.out⟩
    as_aux_lemma =>
    obtain ⟨pb, po, u, hpa, hu, cu⟩ := HRP.out.at (show k2 < pn by have := Hsz.out; have := Ht2.out; omega)
    obtain ⟨pb', po', v, hpa2, hv, cv⟩ := HRP.out.at (show k1 < pn by have := Hk1.out; omega)
    subst hpa
    cases hpa2
    have HU := Lh (show RdT wr wr u.1 u.2.1 u.2.2 (p.getD (p.length - 2) []) by
     have h := HDP.out.at hu
     rwa [show k2 = p.length - 2 by have := HTk.out; have := Hsz.out; have := Ht2.out; omega] at h)
    have HV := Lh (show RdT wr wr v.1 v.2.1 v.2.2 (p.getD (p.length - 1) []) by
     have h := HDP.out.at hv
     rwa [show k1 = p.length - 1 by have := HTk.out; have := Hk1.out; omega] at h)
    have CM := Lh (fun W (g : Gr wr W) => HMk.out (by rw [Ht2.out]; decide) W u.1 u.2.1 u.2.2 v.1 v.2.1 v.2.2 (HV.out.gr g).own fun _ => (HU.out.gr g).own)
    have f1 : wrap64 ((pn : Int) - 2) = (k2 : Int) := by rw [IntWalk.wrap64_in _ (by have := HKc.out; have := HTk.out; omega)]; have := Hsz.out; have := Ht2.out; omega
    have f2 : IntKind.i64.wrap ((pn : Int) - 2) = (k2 : Int) := by rw [IntWalk.i64_in _ (by have := HKc.out; have := HTk.out; omega)]; have := Hsz.out; have := Ht2.out; omega
    have f3 : wrap64 ((pn : Int) - 1) = (k1 : Int) := by rw [IntWalk.wrap64_in _ (by have := HKc.out; have := HTk.out; omega)]; have := Hk1.out; omega
    have f4 : IntKind.i64.wrap ((pn : Int) - 1) = (k1 : Int) := by rw [IntWalk.i64_in _ (by have := HKc.out; have := HTk.out; omega)]; have := Hk1.out; omega
    have b1 : (k2 : Int) < (pn : Int) := by have := Hsz.out; have := Ht2.out; omega
    have b2 : (k1 : Int) < (pn : Int) := by have := Hk1.out; omega
    have b3 : (k2 : Int) ≤ (pc : Int) := by have := HRP.out.2.1; omega
    have n1 : k2 < pn := by omega
    have n2 : k1 < pn := by omega
    obtain ⟨ua, un, uc⟩ := u
    obtain ⟨va, vn, vc⟩ := v
    simp only at cu cv CM
    clear hu hv
    go_upto_region 14 with fail
    obtain ⟨wE, hwE⟩ : ∃ W9, wr.alloc (.cells #[.int .i64 3, .int .i64 x1, .int .i64 x2] 128) = W9 := ⟨_, rfl⟩
    rw [hwE]
    have gE : Gr wr wE := hwE ▸ (Gr.refl wr).alloc _
    obtain ⟨e0, e1, e2⟩ : wE.cell? ⟨wr.heap.size, 0, none⟩ = some (.int .i64 3) ∧ wE.cell? ⟨wr.heap.size, 1, none⟩ = some (.int .i64 x1) ∧ wE.cell? ⟨wr.heap.size, 2, none⟩ = some (.int .i64 x2) := by rw [← hwE]; exact box_tri wr _ _ _ 128
    replace cu := gE.cell cu
    replace cv := gE.cell cv
    refine Hg (fun w' => Gr wE w') 14 ?_
    have hS : Gr wE wE.drew := (Gr.refl wE).drew
    obtain ⟨wT, hw9⟩ : ∃ W9, wE.drew = W9 := ⟨_, rfl⟩
    rw [hw9] at hS ⊢
    clear hw9
    refine H12 0 1 2 3 4 5 6 7 8 9 10 11 (c5 e0 e1 e2 cu cv) hS ?_
    refine Hr 12 rfl (fun K hK => ?_)
    go_simp
    refine ⟨trivial, ?_⟩
    refine (callsIn_wide.2 (CM.out _ (gE.trans hS))).mono ?_
    rintro e w4 ⟨v4, raw4, rfl, h4, d4⟩
    obtain ⟨a4, cc4, rfl, r4⟩ := h4.rd
    have HO4 := Lh h4
    have HD4 := Lh d4
    have HTT := Lh (show RdT w4 w4 a4 raw4.length cc4 RT from RdT.own (w0 := wT) ⟨raw4, r4, d4⟩)
    have hS : Gr wE w4 := hS.trans h4.2
    have HG4 := Lh (gE.trans hS)
    refine hK.out _ _ hS ?_
    clear hK K h4 d4 r4 CM
    refine H1 13 tv hS ?_
    refine Hd ?_
    generalize hn4 : raw4.length = n4 at *
    clear hS e0 e1 e2 cu cv gE hwE
    have CT := Lh (HK.out.much _ w4 (.slice a4 n4 cc4) raw4 RT HO4.out HD4.out HLT.out)
    have HT4 := Lh (show RdT w4 w4 a4 n4 cc4 RT from HTT.out)
    cases hok : okT R RT with
    | true =>
     rw [hok] at CT
     have HR2 := Lh ((if_pos hok).symm.trans HRr.out)
     have HP2 := Lh (HTi.out hok)
     clear hok
     go_wp2_with (first
      | (go_at_call 85; (refine CT.out.mono ?_); rintro e w5 ⟨rfl, g5⟩; have G5 := Lh (HG4.out.trans g5); have g5' := Lh g5; have HL0 := Lh (OwnP.lit0 w5); have HRA := Lh (RdSl.take (HRP.out.gr ((HG4.out.trans g5).trans ((Gr.refl w5).alloc (.cells #[] 77)))) (k := k2) (by have := Hsz.out; omega)); have HKb := Lh (show ([] : List Sl).length + k2 ≤ 1000000 by have := HKc.out; have := HTk.out; have := Hsz.out; simp; omega); have HKd := Lh (show ([] ++ raw.take k2).length + 1 ≤ 1000000 by have := HKc.out; simp; omega); have e9 := w9.out; clear g5 CT)
      | (at_builtin; refine wpList_cat_sls rfl _ _ 126 rfl Tryz.underlying126 _ [] rfl HL0.out _ k2 pc (raw.take k2) rfl HRA.out HKb.out ?_; intro v9 w6 h6 _; have H6 := Lh h6; clear h6 HL0)
      | (at_builtin; go_must (refine wpList_cat_sls rfl _ _ 126 rfl Tryz.underlying126 _ ([] ++ raw.take k2) rfl (H6.out.gr ((Gr.refl w6).alloc (.cells #[.slice a4 n4 cc4] 77))) _ 1 1 [(a4, n4, cc4)] rfl (RdSl.one _ (cell_new1 w6 _ 77)) HKd.out ?_); intro v8 w7 h7 _; obtain ⟨qa, qc, rfl, hr7⟩ := h7.rd; generalize hn7 : ([] ++ raw.take k2 ++ [(a4, n4, cc4)]).length = n7 at *; have H7 := Lh h7; have HR7 := Lh hr7; clear h7 hr7 hn7))
     go_roundw
     case rel =>
      have g7 : Gr wr w7 := G5.out.trans H7.out.2
      exact ⟨k + 1, qa, _, qc, _, restW wd p ++ [RT], qw, Hlt.out, by first | rw [e9] | rfl, rfl, HR7, Lh (by
       have hd := ((HDP.out.gr g7).take k2).snoc (x := (a4, n4, cc4)) (T := RT) (((HT4.out.gr (g5'.out.trans H7.out.2)).own))
       unfold restW
       rw [show p.length - takesW wd = k2 by have := HTk.out; have := Hsz.out; omega]
       exact hd), HP2, HPL2, HR2, Lh (HPn.out RT), Lh (HG.out.trans g7)⟩
     case measure => first | (rw [e9]; exact fallX Hlt.out) | exact fallX Hlt.out
    | false =>
     rw [hok] at CT
     have HR2 := Lh ((if_neg (by rw [hok]; decide)).symm.trans HRr.out)
     clear hok
     go_wp2_with (go_at_call 85; (refine CT.out.mono ?_); rintro e w5 ⟨rfl, g5⟩; have G5 := Lh (HG4.out.trans g5); clear g5 CT)
     refine bodyPost_ret (v := .tuple #[.slice none 0 0, .int .i64 4]) (by simp [results, Tryz.results53, go_sem]) rfl ?_
     rw [← HR2.out]
     exact ⟨rfl, HG.out.trans G5.out⟩
   have hx3 : x0 = 4 ∨ x0 = 5 ∨ x0 = 6 := by
    cases wd <;> simp [takesW] at h2 hput <;> cases hxe
    ·exact .inl rfl
    ·exact .inr (.inl rfl)
    exact .inr (.inr rfl)
   have ht1 : takesW wd = 1 := by cases wd <;> simp [takesW] at h2 hput <;> rfl
   have q1 : (x0 == 1) = false := by rcases hx3 with rfl | rfl | rfl <;> rfl
   have q2 : (x0 == 2) = false := by rcases hx3 with rfl | rfl | rfl <;> rfl
   have q3 : (x0 == 3) = false := by rcases hx3 with rfl | rfl | rfl <;> rfl
   obtain ⟨k1, hk1⟩ : ∃ k1, k1 + 1 = pn := ⟨pn - 1, by have := HTk.out; omega⟩
   have Hk1 := Lh hk1
   have Hsz := Lh (show takesW wd + k1 = pn by omega)
   have Ht1 := Lh ht1
   clear hxe hput hk1 h2 hx3 ht1
   as_aux_lemma =>
    obtain ⟨pb, po, v, hpa, hv, cv⟩ := HRP.out.at (show k1 < pn by have := Hk1.out; omega)
    subst hpa
    have HV := Lh (show RdT wr wr v.1 v.2.1 v.2.2 (p.getD (p.length - 1) []) by
     have h := HDP.out.at hv
     rwa [show k1 = p.length - 1 by have := HTk.out; have := Hk1.out; omega] at h)
    have CM := Lh (fun W (g : Gr wr W) => HMk.out (by rw [Ht1.out]; decide) W none 0 0 v.1 v.2.1 v.2.2 (HV.out.gr g).own fun h => absurd h (by rw [Ht1.out]; decide))
    have f3 : wrap64 ((pn : Int) - 1) = (k1 : Int) := by rw [IntWalk.wrap64_in _ (by have := HKc.out; have := HTk.out; omega)]; have := Hk1.out; omega
    have f4 : IntKind.i64.wrap ((pn : Int) - 1) = (k1 : Int) := by rw [IntWalk.i64_in _ (by have := HKc.out; have := HTk.out; omega)]; have := Hk1.out; omega
    have b2 : (k1 : Int) < (pn : Int) := by have := Hk1.out; omega
    have b3 : (k1 : Int) ≤ (pc : Int) := by have := HRP.out.2.1; omega
    have n2 : k1 < pn := by omega
    obtain ⟨va, vn, vc⟩ := v
    simp only at cv CM
    clear hv
    go_upto_region 8 with fail
    obtain ⟨wE, hwE⟩ : ∃ W9, wr.alloc (.cells #[.int .i64 x0, .int .i64 x1, .int .i64 x2] 128) = W9 := ⟨_, rfl⟩
    rw [hwE]
    have gE : Gr wr wE := hwE ▸ (Gr.refl wr).alloc _
    obtain ⟨e0, e1, e2⟩ : wE.cell? ⟨wr.heap.size, 0, none⟩ = some (.int .i64 x0) ∧ wE.cell? ⟨wr.heap.size, 1, none⟩ = some (.int .i64 x1) ∧ wE.cell? ⟨wr.heap.size, 2, none⟩ = some (.int .i64 x2) := by rw [← hwE]; exact box_tri wr _ _ _ 128
    replace cv := gE.cell cv
    refine Hg (fun w' => Gr wE w') 9 ?_
    have hS : Gr wE wE.drew := (Gr.refl wE).drew
    obtain ⟨wT, hw9⟩ : ∃ W9, wE.drew = W9 := ⟨_, rfl⟩
    rw [hw9] at hS ⊢
    clear hw9
    refine H5 0 1 2 3 4 (c4 e0 e1 e2 cv) hS ?_; refine H2 5 6 (c4 e0 e1 e2 cv) hS ?_
    refine Hr 7 rfl (fun K hK => ?_)
    go_simp
    refine ⟨trivial, ?_⟩
    refine (callsIn_wide.2 (CM.out _ (gE.trans hS))).mono ?_
    rintro e w4 ⟨v4, raw4, rfl, h4, d4⟩
    obtain ⟨a4, cc4, rfl, r4⟩ := h4.rd
    have HO4 := Lh h4
    have HD4 := Lh d4
    have HTT := Lh (show RdT w4 w4 a4 raw4.length cc4 RT from RdT.own (w0 := wT) ⟨raw4, r4, d4⟩)
    have hS : Gr wE w4 := hS.trans h4.2
    have HG4 := Lh (gE.trans hS)
    refine hK.out _ _ hS ?_
    clear hK K h4 d4 r4 CM
    refine H1 8 tv hS ?_
    refine Hd ?_
    generalize hn4 : raw4.length = n4 at *
    clear hS e0 e1 e2 cv gE hwE
    have CT := Lh (HK.out.much _ w4 (.slice a4 n4 cc4) raw4 RT HO4.out HD4.out HLT.out)
    have HT4 := Lh (show RdT w4 w4 a4 n4 cc4 RT from HTT.out)
    cases hok : okT R RT with
    | true =>
     rw [hok] at CT
     have HR2 := Lh ((if_pos hok).symm.trans HRr.out)
     have HP2 := Lh (HTi.out hok)
     clear hok
     go_wp2_with (first
      | (go_at_call 85; (refine CT.out.mono ?_); rintro e w5 ⟨rfl, g5⟩; have G5 := Lh (HG4.out.trans g5); have g5' := Lh g5; have HL0 := Lh (OwnP.lit0 w5); have HRA := Lh (RdSl.take (HRP.out.gr ((HG4.out.trans g5).trans ((Gr.refl w5).alloc (.cells #[] 77)))) (k := k1) (by have := Hsz.out; omega)); have HKb := Lh (show ([] : List Sl).length + k1 ≤ 1000000 by have := HKc.out; have := HTk.out; have := Hsz.out; simp; omega); have HKd := Lh (show ([] ++ raw.take k1).length + 1 ≤ 1000000 by have := HKc.out; simp; omega); have e9 := w9.out; clear g5 CT)
      | (at_builtin; refine wpList_cat_sls rfl _ _ 126 rfl Tryz.underlying126 _ [] rfl HL0.out _ k1 pc (raw.take k1) rfl HRA.out HKb.out ?_; intro v9 w6 h6 _; have H6 := Lh h6; clear h6 HL0)
      | (at_builtin; go_must (refine wpList_cat_sls rfl _ _ 126 rfl Tryz.underlying126 _ ([] ++ raw.take k1) rfl (H6.out.gr ((Gr.refl w6).alloc (.cells #[.slice a4 n4 cc4] 77))) _ 1 1 [(a4, n4, cc4)] rfl (RdSl.one _ (cell_new1 w6 _ 77)) HKd.out ?_); intro v8 w7 h7 _; obtain ⟨qa, qc, rfl, hr7⟩ := h7.rd; generalize hn7 : ([] ++ raw.take k1 ++ [(a4, n4, cc4)]).length = n7 at *; have H7 := Lh h7; have HR7 := Lh hr7; clear h7 hr7 hn7))
     go_roundw
     case rel =>
      have g7 : Gr wr w7 := G5.out.trans H7.out.2
      exact ⟨k + 1, qa, _, qc, _, restW wd p ++ [RT], qw, Hlt.out, by first | rw [e9] | rfl, rfl, HR7, Lh (by
       have hd := ((HDP.out.gr g7).take k1).snoc (x := (a4, n4, cc4)) (T := RT) (((HT4.out.gr (g5'.out.trans H7.out.2)).own))
       unfold restW
       rw [show p.length - takesW wd = k1 by have := HTk.out; have := Hsz.out; omega]
       exact hd), HP2, HPL2, HR2, Lh (HPn.out RT), Lh (HG.out.trans g7)⟩
     case measure => first | (rw [e9]; exact fallX Hlt.out) | exact fallX Hlt.out
    | false =>
     rw [hok] at CT
     have HR2 := Lh ((if_neg (by rw [hok]; decide)).symm.trans HRr.out)
     clear hok
     go_wp2_with (go_at_call 85; (refine CT.out.mono ?_); rintro e w5 ⟨rfl, g5⟩; have G5 := Lh (HG4.out.trans g5); clear g5 CT)
     refine bodyPost_ret (v := .tuple #[.slice none 0 0, .int .i64 4]) (by simp [results, Tryz.results53, go_sem]) rfl ?_
     rw [← HR2.out]
     exact ⟨rfl, HG.out.trans G5.out⟩
  obtain rfl : k = wn := by omega
  have i1 : ¬ (k : Int) < (k : Int) := by omega
  have HE := Lh (show RS = some p ∧ p.length = 1 by
   have h := HRR.out
   have h2 := HPL.out
   have hd : ms.drop k = [] := List.drop_eq_nil_of_le (by have := HN.out; omega)
   rw [hd] at h h2
   unfold planW at h2
   unfold Tb.runR at h
   refine ⟨h.symm, ?_⟩
   rw [HPI.out.1]
   simp only [Option.some.injEq] at h2
   rw [h2]
   exact HZ1.out)
  obtain ⟨b0, o0, x0, hpa, hx0, c0⟩ := HRP.out.at (show 0 < pn by have h1 := HRP.out.1; have h2 := HDP.out.1; have h3 := HE.out.2; omega)
  subst hpa
  have HT0 := Lh (HDP.out.at hx0)
  obtain ⟨a1, n1, cc1⟩ := x0
  simp only [Nat.add_zero] at c0
  have hp0 : 0 < pn := by have h1 := HRP.out.1; have h2 := HDP.out.1; have h3 := HE.out.2; omega
  clear hlt hx0
  go_wp2_with fail
  refine bodyPost_ret (v := .tuple #[.slice a1 n1 cc1, .int .i64 0]) (by simp [results, Tryz.results53, go_sem]) rfl ?_
  rw [HE.out.1]
  exact ⟨a1, n1, cc1, rfl, HT0.out, HG.out⟩
end Go.Proofs.YtehdemcfeoiecaaGreatDoor
