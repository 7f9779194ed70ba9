import Derived.Test.YtehdemcfeoiecaaGreatDoorK10
set_option maxHeartbeats 64000000
set_option maxRecDepth 100000
namespace Go.Proofs.YtehdemcfeoiecaaGreatDoor.RS
open Go.RowKit Go.Firn Go.Firn.Tb
def RdPl (w0 w : World) (a : Option Addr) (n c : Nat) (p : List (Tbl SL)) : Prop := n = p.length ∧ n ≤ c ∧ c ≤ 9223372036854775807 ∧ (a = none → c = 0) ∧ (n = 0 ∨ ∃ b o, a = some ⟨b, o, none⟩ ∧ ∀ i T, p[i]? = some T → ∃ a1 n1 c1, w.cell? ⟨b, o + i, none⟩ = some (.slice a1 n1 c1) ∧ RdT w0 w a1 n1 c1 T)
theorem RdPl.gr {w0 w w' : World} {a : Option Addr} {n c : Nat} {p : List (Tbl SL)} (h : RdPl w0 w a n c p) (g : Gr w w') : RdPl w0 w' a n c p := by
 obtain ⟨h1, h2, h3, h4, h5⟩ := h
 refine ⟨h1, h2, h3, h4, ?_⟩
 rcases h5 with h5 | ⟨b, o, ha, hc⟩
 ·exact .inl h5
 refine .inr ⟨b, o, ha, fun i T hT => ?_⟩
 obtain ⟨a1, n1, c1, k1, k2⟩ := hc i T hT
 exact ⟨a1, n1, c1, g.cell k1, k2.gr g⟩
theorem RdPl.own {w0 w : World} {a : Option Addr} {n c : Nat} {p : List (Tbl SL)} (h : RdPl w0 w a n c p) : RdPl w w a n c p := by
 obtain ⟨h1, h2, h3, h4, h5⟩ := h
 refine ⟨h1, h2, h3, h4, ?_⟩
 rcases h5 with h5 | ⟨b, o, ha, hc⟩
 ·exact .inl h5
 refine .inr ⟨b, o, ha, fun i T hT => ?_⟩
 obtain ⟨a1, n1, c1, k1, k2⟩ := hc i T hT
 exact ⟨a1, n1, c1, k1, k2.own⟩
theorem RdPl.nil (w0 w : World) : RdPl w0 w none 0 0 [] := ⟨rfl, Nat.le_refl _, by omega, fun _ => rfl, .inl rfl⟩
theorem RdPl.at {w0 w : World} {a : Option Addr} {n c : Nat} {p : List (Tbl SL)} (h : RdPl w0 w a n c p) {k : Nat} (hk : k < n) : ∃ b o a1 n1 c1, a = some ⟨b, o, none⟩ ∧ w.cell? ⟨b, o + k, none⟩ = some (.slice a1 n1 c1) ∧ RdT w0 w a1 n1 c1 (p.getD k []) := by
 obtain ⟨h1, h2, h3, h4, h5⟩ := h
 rcases h5 with h5 | ⟨b, o, ha, hc⟩
 ·omega
 have hr : p[k]? = some (p.getD k []) := by rw [List.getD_eq_getElem?_getD, List.getElem?_eq_getElem (by omega)]; rfl
 obtain ⟨a1, n1, c1, k1, k2⟩ := hc k _ hr
 exact ⟨b, o, a1, n1, c1, ha, k1, k2⟩
theorem scrTHs_RdPlolds {P : Prop} (h : P := by
  obtain ⟨h1, h2, h3, h4, h5⟩ := h
  rcases h5 with h5 | ⟨b, o, ha, hc⟩
  ·have : k = 0 := by omega
   subst this
   exact ⟨[], rfl, fun b _ j u hu => by simp at hu, fun j T hT => by simp at hT⟩
  refine ⟨(List.range k).map fun j => (w.cell? ⟨b, o + j, none⟩).getD (.int .i64 0), by simp, fun b' hb j u hu => ?_, fun j T hT => ?_⟩
  ·rw [ha] at hb
   obtain rfl := Option.some.inj hb
   have hj : j < k := by
    rcases Nat.lt_or_ge j k with q | q
    ·exact q
    rw [List.getElem?_eq_none (by simpa using q)] at hu; cases hu
   rw [List.getElem?_map, List.getElem?_range hj] at hu
   obtain ⟨a1, n1, c1, k1, _⟩ := hc j (p[j]'(by omega)) (List.getElem?_eq_getElem (by omega))
   rw [Option.map_some, k1] at hu
   rw [add_flat rfl, k1]
   exact hu
  have hj : j < k := by
   rcases Nat.lt_or_ge j k with q | q
   ·exact q
   rw [List.getElem?_eq_none (by rw [List.length_take]; omega)] at hT; cases hT
  rw [List.getElem?_take, if_pos hj] at hT
  obtain ⟨a1, n1, c1, k1, k2⟩ := hc j T hT
  exact ⟨a1, n1, c1, by rw [List.getElem?_map, List.getElem?_range hj, Option.map_some, k1]; rfl, k2⟩) : P := h
theorem RdPl.olds {w0 w : World} {a : Option Addr} {n c : Nat} {p : List (Tbl SL)} (h : RdPl w0 w a n c p) {k : Nat} (hk : k ≤ n) : ∃ olds : List Value, olds.length = k ∧ (∀ b, a = some b → ∀ (j : Nat) (u : Value), olds[j]? = some u → w.cell? (b.add j) = some u) ∧ ∀ (j : Nat) (T : Tbl SL), (p.take k)[j]? = some T → ∃ a1 n1 c1, olds[j]? = some (.slice a1 n1 c1) ∧ RdT w0 w a1 n1 c1 T := by exact scrTHs_RdPlolds
theorem infoTb : (Tryz.prog.info? 109).map (fun i => (i.zero, i.size, i.bytes)) = some (some (.slice none 0 0), 1, 24) := by kernel_rfl
theorem info_tab : ∃ i, Tryz.prog.info? 109 = some i ∧ i.zero = some (.slice none 0 0) ∧ i.size = 1 ∧ i.bytes = 24 := by
 have h := infoTb
 cases hi : Tryz.prog.info? 109 with
 | none => rw [hi] at h; cases h
 | some i =>
  rw [hi] at h
  simp only [Option.map_some, Option.some.injEq, Prod.mk.injEq] at h
  exact ⟨i, rfl, h⟩
theorem scrTHs_RdPlpush {P : Prop} (h : P := by
  have h0 := hw
  obtain ⟨hl, hv⟩ := hw
  rcases hv with ⟨_, hz⟩ | ⟨g', cap, cur, rfl, hb, hg, hnc, hcm, hcs, htake⟩
  ·simp at hz
  refine ⟨_, _, rfl, by rw [List.length_append, List.length_take]; simp; omega, hnc, hcm, (fun e => by cases e), .inr ⟨g', 0, rfl, fun i U hU => ?_⟩⟩
  rw [List.getElem?_append] at hU
  split at hU
  ·rename_i hi
   rw [List.length_take] at hi
   obtain ⟨x1, x2, x3, e1, e2⟩ := hq i U hU
   have c0 := h0.cells (g := g') rfl i _ (by rw [List.getElem?_append_left (by omega)]; exact e1)
   rw [add_flat rfl] at c0
   exact ⟨x1, x2, x3, c0, (e2.gr g).own⟩
  rename_i hi
  rw [List.length_take] at hi hU
  have hik : i = k := by
   rcases Nat.lt_or_ge k i with q | q
   ·rw [List.getElem?_eq_none (by simp; omega)] at hU; cases hU
   omega
  subst hik
  rw [show i - min i p.length = 0 by omega] at hU
  simp only [List.getElem?_cons_zero, Option.some.injEq] at hU
  subst hU
  have c0 := h0.cells (g := g') rfl i (.slice a1 n1 c1) (by rw [List.getElem?_append_right (by omega), ho, Nat.sub_self]; rfl)
  rw [add_flat rfl] at c0
  exact ⟨a1, n1, c1, c0, hT⟩) : P := h
theorem RdPl.push {w w' : World} {k : Nat} {p : List (Tbl SL)} {olds : List Value} {v' : Value} {a1 : Option Addr} {n1 c1 : Nat} {T : Tbl SL} {base : Nat} (ho : olds.length = k) (hq : ∀ (j : Nat) (T : Tbl SL), (p.take k)[j]? = some T → ∃ a1 n1 c1, olds[j]? = some (.slice a1 n1 c1) ∧ RdT w w a1 n1 c1 T) (hk : k ≤ p.length) (hw : w'.ownsRow base 109 1 v' (k + 1) (olds ++ [.slice a1 n1 c1])) (g : Gr w w') (hT : RdT w' w' a1 n1 c1 T) : ∃ a' c', v' = .slice a' (k + 1) c' ∧ RdPl w' w' a' (k + 1) c' (p.take k ++ [T]) := by exact scrTHs_RdPlpush
def cutW (R : Rg SL) (tabs : List (Tbl SL)) (s : Wd) (p : List (Tbl SL)) : Tbl SL := match s with
 | .byy => (rowsW R.mul tabs s p).take 61
 | s => rowsW R.mul tabs s p
def RetDo (w : World) (p : List (Tbl SL)) (b : Bool) (e : Ending) (w' : World) : Prop := ∃ a n c, e = .returned (.tuple #[.slice a n c, .bool b]) ∧ RdPl w' w' a n c p ∧ Gr w w'
theorem wraps {n kk : Nat} (hkk : n = kk + 2) (hn : n ≤ 1000) : IntKind.i64.wrap ((n : Int) - 2) = (kk : Int) ∧ IntKind.i64.wrap ((kk : Int) + 1) = ((kk + 1 : Nat) : Int) ∧ wrap64 ((n : Int) - 2) = (kk : Int) ∧ wrap64 ((kk : Int) + 1) = ((kk + 1 : Nat) : Int) := by
 refine ⟨?_, ?_, ?_, ?_⟩
 ·rw [IntWalk.i64_in _ (by omega)]; omega
 ·rw [IntWalk.i64_in _ (by omega)]; omega
 ·rw [IntWalk.wrap64_in _ (by omega)]; omega
 rw [IntWalk.wrap64_in _ (by omega)]; omega
theorem one_cell (w : World) {u v : Value} {e : TypeId} {j : Nat} (hu : [v][j]? = some u) : (w.alloc (.cells #[v] e)).cell? ((⟨w.heap.size, 0, none⟩ : Addr).add j) = some u := by
 cases j with
 | zero =>
  simp only [List.getElem?_cons_zero, Option.some.injEq] at hu
  subst hu
  rw [add_flat rfl]
  simp
 | succ j => simp at hu
theorem scrTKs_does_put {P : Prop} (h : P := by
  have hnp := hp.1
  have hnc := hp.2.1
  have hnone := hp.2.2.2.1
  have HP := Lh hp
  have HF := Lh hF
  have HL := Lh (And.intro hL (And.intro hG hM))
  first | (have z := zS; clear z; obtain ⟨w1, hw1⟩ : ∃ w1, w.alloc (.cells #[.func (.func F.p) #[] F.pb, .func (.func F.t) #[] F.tb, .func (.func F.s) #[] F.sb, .func (.func F.f) #[] F.fb] 117) = w1 := ⟨_, rfl⟩) | (obtain ⟨w1, hw1⟩ : ∃ w1, w.alloc (.cells #[.func (.func F.p) #[] F.pb, .func (.func F.t) #[] F.tb, .func (.func F.s) #[] F.sb, .func (.func F.f) #[] F.fb] 63) = w1 := ⟨_, rfl⟩)
  have g1 : Gr w w1 := hw1 ▸ (Gr.refl w).alloc _
  obtain ⟨f0, f1, f2, f3⟩ := BoxF.new hw1
  obtain ⟨w2, hw2⟩ : ∃ w2, w1.alloc (.cells #[.int .i64 (stp (.put k)).1, .int .i64 (stp (.put k)).2.1, .int .i64 (stp (.put k)).2.2] 103) = w2 := ⟨_, rfl⟩
  have g2 : Gr w1 w2 := hw2 ▸ (Gr.refl w1).alloc _
  have z0 : w2.cell? ⟨w1.heap.size, 0, none⟩ = some (.int .i64 (stp (.put k)).1) := by rw [← hw2]; simp
  have z1 : w2.cell? ⟨w1.heap.size, 1, none⟩ = some (.int .i64 (stp (.put k)).2.1) := by rw [← hw2]; simp
  have z2 : w2.cell? ⟨w1.heap.size, 2, none⟩ = some (.int .i64 (stp (.put k)).2.2) := by rw [← hw2]; simp
  replace f0 := g2.cell f0
  replace f1 := g2.cell f1
  replace f2 := g2.cell f2
  replace f3 := g2.cell f3
  have HG2 := Lh (g1.trans g2)
  unfold RF.val
  simp only [stp] at z0 z1 z2 hw2 ⊢
  clear hp hF hL hG hM g1 g2
  have CF := Lh (hC w2 HG2.out)
  clear hC
  first | (have z := zS; clear z; go_enter Tryz.func107, Tryz.ntmps107) | (go_enter Tryz.func74, Tryz.ntmps74)
  generalize hbx : w.heap.size = bx at *
  generalize hbw : w1.heap.size = bw at *
  have hkn : p.length ≤ n := by omega
  go_wp2_with fail
  refine CF.out.mono ?_
  rintro e w3 ⟨v, raw, rfl, hO, hD⟩
  have HO := Lh hO
  have HD := Lh hD
  replace f0 := hO.2.cell f0
  replace f1 := hO.2.cell f1
  replace f2 := hO.2.cell f2
  replace f3 := hO.2.cell f3
  obtain ⟨va, vc, rfl, _⟩ := hO.rd
  clear z0 z1 z2 CF hO hD hw1 hw2
  have HKK := Lh (show restW (.put k) p = p.take p.length from rfl)
  generalize hkk : p.length = kk at *
  have hkp : kk ≤ p.length := by omega
  first | (have z := zS; clear z; have CG := Lh (show Calls Tryz.prog 141 #[.agg #[.func (.func F.p) #[] F.pb, .func (.func F.t) #[] F.tb, .func (.func F.s) #[] F.sb, .func (.func F.f) #[] F.fb], .slice va raw.length vc] w3 _ from gathered_any F R G μ B w2 w3 _ raw _ HO.out HD.out HL.out.1 (HF.out.gr HG2.out) HL.out.2.1 HL.out.2.2)) | (have CG := Lh (show Calls Tryz.prog 104 #[.agg #[.func (.func F.p) #[] F.pb, .func (.func F.t) #[] F.tb, .func (.func F.s) #[] F.sb, .func (.func F.f) #[] F.fb], .slice va raw.length vc] w3 _ from gathered_any F R G μ B w2 w3 _ raw _ HO.out HD.out HL.out.1 (HF.out.gr HG2.out) HL.out.2.1 HL.out.2.2))
  generalize raw.length = rl at *
  obtain ⟨i0, hi, hz0, hz1, hz2⟩ := info_tab
  obtain ⟨olds, ho1, ho2, ho3⟩ := HP.out.olds (k := kk) (by omega)
  have HI := Lh (And.intro hi (And.intro hz0 (And.intro hz1 (And.intro hz2 (And.intro ho1 (And.intro ho2 ho3))))))
  have HK := Lh (And.intro hkn (And.intro hn (And.intro hnc (And.intro hnone hkp))))
  have s1 : (kk : Int) ≤ (c : Int) := by omega
  clear hi hz0 hz1 hz2 ho1 ho2 ho3 hn hnc hnone hkn hkp
  go_wp2_with (first
   | ((first | go_at_call 104 | go_at_call 141); (with_reducible refine CG.out.mono ?_); rintro e w9 ⟨aT, nT, cT, rfl, hT, gT⟩; have HT := Lh hT; have GT := Lh gT; clear hT gT CG)
   | (at_builtin; refine wpList_append_grows _ rfl _ _ 152 rfl 109 i0 _ 1 24 Tryz.underlying152 HI.out.1 HI.out.2.1 HI.out.2.2.1 HI.out.2.2.2.1 rfl (by decide) _ _ _ olds rfl (fun e => by have h1 := HK.out; have h2 := h1.2.2.2.1 e; omega) (by rw [Nat.mul_one]; exact HI.out.2.2.2.2.1) (fun b hb j u hu => ((HG2.out.trans GT.out).trans ((Gr.refl w9).alloc _)).cell (HI.out.2.2.2.2.2.1 b hb j u hu)) _ _ _ [.slice aT nT cT] rfl rfl (fun j u hu => one_cell w9 hu) (by simp [Value.oneCell']) (by omega) (by unfold maxLen; have := HK.out; omega) (by have := HK.out; omega) ?_; intro v3 w4 hown3 hg3; have H3 := Lh hown3; have G3 := Lh ((HG2.out.trans GT.out).trans (((Gr.refl w9).alloc (.cells #[.slice aT nT cT] 109)).grown hg3 (fun k hk => by cases hk))); have GL := Lh (((Gr.refl w9).alloc (.cells #[.slice aT nT cT] 109)).grown hg3 (fun k hk => by cases hk)); clear hown3 hg3)
   | (at_builtin; refine wpList_append_grows _ rfl _ _ 100 rfl 65 i0 _ 1 24 Tryz.underlying100 HI.out.1 HI.out.2.1 HI.out.2.2.1 HI.out.2.2.2.1 rfl (by decide) _ _ _ olds rfl (fun e => by have h1 := HK.out; have h2 := h1.2.2.2.1 e; omega) (by rw [Nat.mul_one]; exact HI.out.2.2.2.2.1) (fun b hb j u hu => ((HG2.out.trans GT.out).trans ((Gr.refl w9).alloc _)).cell (HI.out.2.2.2.2.2.1 b hb j u hu)) _ _ _ [.slice aT nT cT] rfl rfl (fun j u hu => one_cell w9 hu) (by simp [Value.oneCell']) (by omega) (by unfold maxLen; have := HK.out; omega) (by have := HK.out; omega) ?_; intro v3 w4 hown3 hg3; have H3 := Lh hown3; have G3 := Lh ((HG2.out.trans GT.out).trans (((Gr.refl w9).alloc (.cells #[.slice aT nT cT] 65)).grown hg3 (fun k hk => by cases hk))); have GL := Lh (((Gr.refl w9).alloc (.cells #[.slice aT nT cT] 65)).grown hg3 (fun k hk => by cases hk)); clear hown3 hg3)
   | go_in)
  obtain ⟨a', c', rfl, hpl⟩ := RdPl.push (p := p) (k := kk) HI.out.2.2.2.2.1 HI.out.2.2.2.2.2.2 HK.out.2.2.2.2 H3.out G3.out ((HT.out.gr GL.out).own)
  rw [← HKK.out] at hpl
  first | (have z := zS; clear z; refine bodyPost_ret (v := .tuple #[.slice a' (kk + 1) c', .bool _]) (by simp [results, Tryz.results107, go_sem]; rfl) rfl ?_) | (refine bodyPost_ret (v := .tuple #[.slice a' (kk + 1) c', .bool _]) (by simp [results, Tryz.results74, go_sem]; rfl) rfl ?_)
  exact ⟨_, _, _, rfl, hpl, G3.out⟩) : P := h
theorem does_put (F : RF) (R : Rg SL) (G : SL → Prop) (μ : SL → Nat) (B : Nat) (w : World) (a : Option Addr) (n c : Nat) (tabs p : List (Tbl SL)) (k : Nat) (hp : RdPl w w a n c p) (hn : n ≤ 1000) (hF : RingOk F R G μ B w) (hL : (cutW R tabs (.put k) p).length ≤ 1000) (hG : ∀ x ∈ cutW R tabs (.put k) p, G x.2) (hM : sumT μ (cutW R tabs (.put k) p) ≤ B) (bt bf : Nat) (hC : ∀ W, Gr w W → Calls Tryz.prog 106 #[.int .i64 k, .pointer (some ⟨bt, 0, none⟩), .pointer (some ⟨bf, 0, none⟩)] W (RetRows W (tabs.getD k []))) :
  Calls Tryz.prog 107 #[F.val, .agg #[.int .i64 (stp (.put k)).1, .int .i64 (stp (.put k)).2.1, .int .i64 (stp (.put k)).2.2], .slice a n c, .func (.func 106) #[] #[.pointer (some ⟨bt, 0, none⟩), .pointer (some ⟨bf, 0, none⟩)]] w (RetDo w (restW (.put k) p ++ [gath R (cutW R tabs (.put k) p)]) (okT R (gath R (cutW R tabs (.put k) p)))) := by have zS := trivial; exact scrTKs_does_put
theorem scrTKs_does_orr {P : Prop} (h : P := by
  have hnp := hp.1
  have hnc := hp.2.1
  have hnone := hp.2.2.2.1
  have HP := Lh hp
  have HF := Lh hF
  have HL := Lh (And.intro hL (And.intro hG hM))
  first | (have z := zS; clear z; obtain ⟨w1, hw1⟩ : ∃ w1, w.alloc (.cells #[.func (.func F.p) #[] F.pb, .func (.func F.t) #[] F.tb, .func (.func F.s) #[] F.sb, .func (.func F.f) #[] F.fb] 117) = w1 := ⟨_, rfl⟩) | (obtain ⟨w1, hw1⟩ : ∃ w1, w.alloc (.cells #[.func (.func F.p) #[] F.pb, .func (.func F.t) #[] F.tb, .func (.func F.s) #[] F.sb, .func (.func F.f) #[] F.fb] 63) = w1 := ⟨_, rfl⟩)
  have g1 : Gr w w1 := hw1 ▸ (Gr.refl w).alloc _
  obtain ⟨f0, f1, f2, f3⟩ := BoxF.new hw1
  obtain ⟨w2, hw2⟩ : ∃ w2, w1.alloc (.cells #[.int .i64 (stp .orr).1, .int .i64 (stp .orr).2.1, .int .i64 (stp .orr).2.2] 103) = w2 := ⟨_, rfl⟩
  have g2 : Gr w1 w2 := hw2 ▸ (Gr.refl w1).alloc _
  have z0 : w2.cell? ⟨w1.heap.size, 0, none⟩ = some (.int .i64 (stp .orr).1) := by rw [← hw2]; simp
  have z1 : w2.cell? ⟨w1.heap.size, 1, none⟩ = some (.int .i64 (stp .orr).2.1) := by rw [← hw2]; simp
  have z2 : w2.cell? ⟨w1.heap.size, 2, none⟩ = some (.int .i64 (stp .orr).2.2) := by rw [← hw2]; simp
  replace f0 := g2.cell f0
  replace f1 := g2.cell f1
  replace f2 := g2.cell f2
  replace f3 := g2.cell f3
  have HG2 := Lh (g1.trans g2)
  unfold RF.val
  simp only [stp] at z0 z1 z2 hw2 ⊢
  clear hp hF hL hG hM g1 g2
  generalize hbx : w.heap.size = bx at *
  generalize hbw : w1.heap.size = bw at *
  obtain ⟨kk, hkk⟩ : ∃ kk, n = kk + 2 := ⟨n - 2, by omega⟩
  have hp2 : p.length = kk + 2 := by omega
  obtain ⟨b, o, a1, n1, c1, rfl, q1, t1⟩ := HP.out.at (k := kk) (by omega)
  obtain ⟨b', o', a2, n2, cc2, eb, q2, t2⟩ := HP.out.at (k := kk + 1) (by omega)
  simp only [Option.some.injEq, Addr.mk.injEq, and_true] at eb
  obtain ⟨rfl, rfl⟩ := eb
  replace q1 := HG2.out.cell q1
  replace q2 := HG2.out.cell q2
  have HT1 := Lh (t1.gr HG2.out).own
  have HT2 := Lh (t2.gr HG2.out).own
  have i1 : (kk : Int) < (n : Int) := by omega
  have i2 : ((kk + 1 : Nat) : Int) < (n : Int) := by omega
  have i3 : (kk : Int) + 1 < (n : Int) := by omega
  have i4 : (0 : Int) ≤ (kk : Int) + 1 := by omega
  have i5 : ((kk : Int) + 1).toNat = kk + 1 := by omega
  have HKK := Lh (show restW .orr p = p.take kk by show p.take (p.length - 2) = _; rw [hp2, Nat.add_sub_cancel])
  have HP2 := Lh (show p.getD (p.length - 2) [] = p.getD kk [] ∧ p.getD (p.length - 1) [] = p.getD (kk + 1) [] by rw [hp2]; exact ⟨rfl, rfl⟩)
  have hkn : kk ≤ n := by omega
  have hkp : kk ≤ p.length := by omega
  have HN2 := Lh (show n1 = (p.getD kk []).length ∧ n2 = (p.getD (kk + 1) []).length from ⟨t1.len, t2.len⟩)
  obtain ⟨e1, e2, e1', e2'⟩ := wraps hkk hn
  clear t1 t2 hnp hp2 hkk
  first | (have z := zS; clear z; go_enter Tryz.func107, Tryz.ntmps107) | (go_enter Tryz.func74, Tryz.ntmps74)
  go_wp2_with fail
  refine Hg (fun w' => Gr w2 w') 12 ?_
  have hS : Gr w2 w2.drew := (Gr.refl w2).drew
  refine H5 0 1 2 3 4 (c2 q1 q2) hS ?_; refine H4 5 6 7 8 (c2 q1 q2) hS ?_
  refine Hr 9 rfl (fun K hK => ?_)
  go_simp
  first | (have z := zS; clear z; obtain ⟨wY, hwY⟩ : ∃ wY, (w2.alloc (.cells #[.slice a1 n1 c1, .slice a2 n2 cc2] 109)).drew = wY := ⟨_, rfl⟩) | (obtain ⟨wY, hwY⟩ : ∃ wY, (w2.alloc (.cells #[.slice a1 n1 c1, .slice a2 n2 cc2] 65)).drew = wY := ⟨_, rfl⟩)
  have hS : Gr w2 wY := hwY ▸ ((Gr.refl w2).alloc _).drew
  first | (have z := zS; clear z; have hcc : wY.cell? ⟨w2.heap.size, 0, none⟩ = some (.slice a1 n1 c1) ∧ wY.cell? ⟨w2.heap.size, 1, none⟩ = some (.slice a2 n2 cc2) := by rw [← hwY]; exact boxr w2 _ _ 109) | (have hcc : wY.cell? ⟨w2.heap.size, 0, none⟩ = some (.slice a1 n1 c1) ∧ wY.cell? ⟨w2.heap.size, 1, none⟩ = some (.slice a2 n2 cc2) := by rw [← hwY]; exact boxr w2 _ _ 65)
  rw [hwY]
  clear hwY
  have CC := Lh (concat_any w2.heap.size n1 c1 n2 cc2 a1 a2 (p.getD kk []) (p.getD (kk + 1) []) wY (by have h1 := HL.out.1; have h2 := HN2.out; have h3 := HP2.out; simp only [cutW, rowsW, List.length_append] at h1; rw [h3.1, h3.2] at h1; omega) (by have h1 := HL.out.1; have h2 := HN2.out; have h3 := HP2.out; simp only [cutW, rowsW, List.length_append] at h1; rw [h3.1, h3.2] at h1; omega) (HT1.out.gr hS).own (HT2.out.gr hS).own hcc.1 hcc.2)
  refine hK.out _ _ hS ?_
  clear hK K hcc
  refine Hr 10 rfl (fun K hK => ?_)
  go_simp
  refine ⟨trivial, ?_⟩
  refine (callsIn_wide.2 (CC.out)).mono ?_
  rintro e w3 ⟨v, raw, rfl, hO, hD⟩
  have HO := Lh hO
  have HD := Lh (show Dat wY w3 raw (cutW R tabs .orr p) by show Dat wY w3 raw (p.getD (p.length - 2) [] ++ p.getD (p.length - 1) []); rw [HP2.out.1, HP2.out.2]; exact hD)
  have HGY := Lh (HG2.out.trans hS)
  have hS : Gr w2 w3 := hS.trans hO.2
  obtain ⟨va, vc, rfl, _⟩ := hO.rd
  refine hK.out _ _ hS ?_
  clear hK K hO hD CC
  refine H1 11 tv hS ?_
  refine Hd ?_
  replace f0 := hS.cell f0
  replace f1 := hS.cell f1
  replace f2 := hS.cell f2
  replace f3 := hS.cell f3
  clear i3 i4 i5 z0 z1 z2 q1 q2 i1 i2 e1 e2 e1' e2' hS HT1 HT2
  first | (have z := zS; clear z; have CG := Lh (show Calls Tryz.prog 141 #[.agg #[.func (.func F.p) #[] F.pb, .func (.func F.t) #[] F.tb, .func (.func F.s) #[] F.sb, .func (.func F.f) #[] F.fb], .slice va raw.length vc] w3 _ from gathered_any F R G μ B wY w3 _ raw _ HO.out HD.out HL.out.1 (HF.out.gr HGY.out) HL.out.2.1 HL.out.2.2)) | (have CG := Lh (show Calls Tryz.prog 104 #[.agg #[.func (.func F.p) #[] F.pb, .func (.func F.t) #[] F.tb, .func (.func F.s) #[] F.sb, .func (.func F.f) #[] F.fb], .slice va raw.length vc] w3 _ from gathered_any F R G μ B wY w3 _ raw _ HO.out HD.out HL.out.1 (HF.out.gr HGY.out) HL.out.2.1 HL.out.2.2))
  generalize raw.length = rl at *
  obtain ⟨i0, hi, hz0, hz1, hz2⟩ := info_tab
  obtain ⟨olds, ho1, ho2, ho3⟩ := HP.out.olds (k := kk) (by omega)
  have HI := Lh (And.intro hi (And.intro hz0 (And.intro hz1 (And.intro hz2 (And.intro ho1 (And.intro ho2 ho3))))))
  have HK := Lh (And.intro hkn (And.intro hn (And.intro hnc (And.intro hnone hkp))))
  have s1 : (kk : Int) ≤ (c : Int) := by omega
  clear hi hz0 hz1 hz2 ho1 ho2 ho3 hn hnc hnone hkn hkp
  go_wp2_with (first
   | ((first | go_at_call 104 | go_at_call 141); (with_reducible refine CG.out.mono ?_); rintro e w9 ⟨aT, nT, cT, rfl, hT, gT⟩; have HT := Lh hT; have GT := Lh gT; clear hT gT CG)
   | (at_builtin; refine wpList_append_grows _ rfl _ _ 152 rfl 109 i0 _ 1 24 Tryz.underlying152 HI.out.1 HI.out.2.1 HI.out.2.2.1 HI.out.2.2.2.1 rfl (by decide) _ _ _ olds rfl (fun e => by have h1 := HK.out; have h2 := h1.2.2.2.1 e; omega) (by rw [Nat.mul_one]; exact HI.out.2.2.2.2.1) (fun b hb j u hu => ((HGY.out.trans GT.out).trans ((Gr.refl w9).alloc _)).cell (HI.out.2.2.2.2.2.1 b hb j u hu)) _ _ _ [.slice aT nT cT] rfl rfl (fun j u hu => one_cell w9 hu) (by simp [Value.oneCell']) (by omega) (by unfold maxLen; have := HK.out; omega) (by have := HK.out; omega) ?_; intro v3 w4 hown3 hg3; have H3 := Lh hown3; have G3 := Lh ((HGY.out.trans GT.out).trans (((Gr.refl w9).alloc (.cells #[.slice aT nT cT] 109)).grown hg3 (fun k hk => by cases hk))); have GL := Lh (((Gr.refl w9).alloc (.cells #[.slice aT nT cT] 109)).grown hg3 (fun k hk => by cases hk)); clear hown3 hg3)
   | (at_builtin; refine wpList_append_grows _ rfl _ _ 100 rfl 65 i0 _ 1 24 Tryz.underlying100 HI.out.1 HI.out.2.1 HI.out.2.2.1 HI.out.2.2.2.1 rfl (by decide) _ _ _ olds rfl (fun e => by have h1 := HK.out; have h2 := h1.2.2.2.1 e; omega) (by rw [Nat.mul_one]; exact HI.out.2.2.2.2.1) (fun b hb j u hu => ((HGY.out.trans GT.out).trans ((Gr.refl w9).alloc _)).cell (HI.out.2.2.2.2.2.1 b hb j u hu)) _ _ _ [.slice aT nT cT] rfl rfl (fun j u hu => one_cell w9 hu) (by simp [Value.oneCell']) (by omega) (by unfold maxLen; have := HK.out; omega) (by have := HK.out; omega) ?_; intro v3 w4 hown3 hg3; have H3 := Lh hown3; have G3 := Lh ((HGY.out.trans GT.out).trans (((Gr.refl w9).alloc (.cells #[.slice aT nT cT] 65)).grown hg3 (fun k hk => by cases hk))); have GL := Lh (((Gr.refl w9).alloc (.cells #[.slice aT nT cT] 65)).grown hg3 (fun k hk => by cases hk)); clear hown3 hg3)
   | go_in)
  obtain ⟨a', c', rfl, hpl⟩ := RdPl.push (p := p) (k := kk) HI.out.2.2.2.2.1 HI.out.2.2.2.2.2.2 HK.out.2.2.2.2 H3.out G3.out ((HT.out.gr GL.out).own)
  rw [← HKK.out] at hpl
  first | (have z := zS; clear z; refine bodyPost_ret (v := .tuple #[.slice a' (kk + 1) c', .bool _]) (by simp [results, Tryz.results107, go_sem]; rfl) rfl ?_) | (refine bodyPost_ret (v := .tuple #[.slice a' (kk + 1) c', .bool _]) (by simp [results, Tryz.results74, go_sem]; rfl) rfl ?_)
  exact ⟨_, _, _, rfl, hpl, G3.out⟩) : P := h
theorem does_orr (F : RF) (R : Rg SL) (G : SL → Prop) (μ : SL → Nat) (B : Nat) (w : World) (a : Option Addr) (n c : Nat) (tabs p : List (Tbl SL)) (fv : Value) (hp : RdPl w w a n c p) (hn : n ≤ 1000) (hF : RingOk F R G μ B w) (hL : (cutW R tabs .orr p).length ≤ 1000) (hG : ∀ x ∈ cutW R tabs .orr p, G x.2) (hM : sumT μ (cutW R tabs .orr p) ≤ B) (hk : 2 ≤ p.length) :
  Calls Tryz.prog 107 #[F.val, .agg #[.int .i64 (stp .orr).1, .int .i64 (stp .orr).2.1, .int .i64 (stp .orr).2.2], .slice a n c, fv] w (RetDo w (restW .orr p ++ [gath R (cutW R tabs .orr p)]) (okT R (gath R (cutW R tabs .orr p)))) := by have zS := trivial; exact scrTKs_does_orr
theorem scrTKs_does_byy {P : Prop} (h : P := by
  have hnp := hp.1
  have hnc := hp.2.1
  have hnone := hp.2.2.2.1
  have HP := Lh hp
  have HF := Lh hF
  have HL := Lh (And.intro hL (And.intro hG hM))
  first | (have z := zS; clear z; obtain ⟨w1, hw1⟩ : ∃ w1, w.alloc (.cells #[.func (.func F.p) #[] F.pb, .func (.func F.t) #[] F.tb, .func (.func F.s) #[] F.sb, .func (.func F.f) #[] F.fb] 117) = w1 := ⟨_, rfl⟩) | (obtain ⟨w1, hw1⟩ : ∃ w1, w.alloc (.cells #[.func (.func F.p) #[] F.pb, .func (.func F.t) #[] F.tb, .func (.func F.s) #[] F.sb, .func (.func F.f) #[] F.fb] 63) = w1 := ⟨_, rfl⟩)
  have g1 : Gr w w1 := hw1 ▸ (Gr.refl w).alloc _
  obtain ⟨f0, f1, f2, f3⟩ := BoxF.new hw1
  obtain ⟨w2, hw2⟩ : ∃ w2, w1.alloc (.cells #[.int .i64 (stp .byy).1, .int .i64 (stp .byy).2.1, .int .i64 (stp .byy).2.2] 103) = w2 := ⟨_, rfl⟩
  have g2 : Gr w1 w2 := hw2 ▸ (Gr.refl w1).alloc _
  have z0 : w2.cell? ⟨w1.heap.size, 0, none⟩ = some (.int .i64 (stp .byy).1) := by rw [← hw2]; simp
  have z1 : w2.cell? ⟨w1.heap.size, 1, none⟩ = some (.int .i64 (stp .byy).2.1) := by rw [← hw2]; simp
  have z2 : w2.cell? ⟨w1.heap.size, 2, none⟩ = some (.int .i64 (stp .byy).2.2) := by rw [← hw2]; simp
  replace f0 := g2.cell f0
  replace f1 := g2.cell f1
  replace f2 := g2.cell f2
  replace f3 := g2.cell f3
  have HG2 := Lh (g1.trans g2)
  unfold RF.val
  simp only [stp] at z0 z1 z2 hw2 ⊢
  clear hp hF hL hG hM g1 g2
  have HJ := Lh hJ
  clear hJ
  generalize hbx : w.heap.size = bx at *
  generalize hbw : w1.heap.size = bw at *
  obtain ⟨kk, hkk⟩ : ∃ kk, n = kk + 2 := ⟨n - 2, by omega⟩
  have hp2 : p.length = kk + 2 := by omega
  obtain ⟨b, o, a1, n1, c1, rfl, q1, t1⟩ := HP.out.at (k := kk) (by omega)
  obtain ⟨b', o', a2, n2, cc2, eb, q2, t2⟩ := HP.out.at (k := kk + 1) (by omega)
  simp only [Option.some.injEq, Addr.mk.injEq, and_true] at eb
  obtain ⟨rfl, rfl⟩ := eb
  replace q1 := HG2.out.cell q1
  replace q2 := HG2.out.cell q2
  have HT1 := Lh (t1.gr HG2.out).own
  have HT2 := Lh (t2.gr HG2.out).own
  have i1 : (kk : Int) < (n : Int) := by omega
  have i2 : ((kk + 1 : Nat) : Int) < (n : Int) := by omega
  have i3 : (kk : Int) + 1 < (n : Int) := by omega
  have i4 : (0 : Int) ≤ (kk : Int) + 1 := by omega
  have i5 : ((kk : Int) + 1).toNat = kk + 1 := by omega
  have HKK := Lh (show restW .byy p = p.take kk by show p.take (p.length - 2) = _; rw [hp2, Nat.add_sub_cancel])
  have HP2 := Lh (show p.getD (p.length - 2) [] = p.getD kk [] ∧ p.getD (p.length - 1) [] = p.getD (kk + 1) [] by rw [hp2]; exact ⟨rfl, rfl⟩)
  have hkn : kk ≤ n := by omega
  have hkp : kk ≤ p.length := by omega
  have HN2 := Lh (show n1 = (p.getD kk []).length ∧ n2 = (p.getD (kk + 1) []).length from ⟨t1.len, t2.len⟩)
  obtain ⟨e1, e2, e1', e2'⟩ := wraps hkk hn
  clear t1 t2 hnp hp2 hkk
  first | (have z := zS; clear z; go_enter Tryz.func107, Tryz.ntmps107) | (go_enter Tryz.func74, Tryz.ntmps74)
  go_wp2_with fail
  first | (have z := zS; clear z; have CY := Lh (fun W (k : Gr w2 W) => (show Calls Tryz.prog 140 #[.agg #[.func (.func F.p) #[] F.pb, .func (.func F.t) #[] F.tb, .func (.func F.s) #[] F.sb, .func (.func F.f) #[] F.fb], .slice a1 n1 c1, .slice a2 n2 cc2] W _ from by_any F R G μ B W a1 a2 n1 c1 n2 cc2 (p.getD kk []) (p.getD (kk + 1) []) (by have h2 := HN2.out; have h3 := HJ.out; rw [← HP2.out.1] at h2; omega) (by have h2 := HN2.out; have h3 := HJ.out; rw [← HP2.out.2] at h2; omega) (HT1.out.gr k).own (HT2.out.gr k).own (HF.out.gr (HG2.out.trans k)) (HP2.out.1 ▸ HJ.out.2.2.1) (HP2.out.2 ▸ HJ.out.2.2.2)))) | (have CY := Lh (fun W (k : Gr w2 W) => (show Calls Tryz.prog 101 #[.agg #[.func (.func F.p) #[] F.pb, .func (.func F.t) #[] F.tb, .func (.func F.s) #[] F.sb, .func (.func F.f) #[] F.fb], .slice a1 n1 c1, .slice a2 n2 cc2] W _ from by_any F R G μ B W a1 a2 n1 c1 n2 cc2 (p.getD kk []) (p.getD (kk + 1) []) (by have h2 := HN2.out; have h3 := HJ.out; rw [← HP2.out.1] at h2; omega) (by have h2 := HN2.out; have h3 := HJ.out; rw [← HP2.out.2] at h2; omega) (HT1.out.gr k).own (HT2.out.gr k).own (HF.out.gr (HG2.out.trans k)) (HP2.out.1 ▸ HJ.out.2.2.1) (HP2.out.2 ▸ HJ.out.2.2.2))))
  refine Hg (fun w' => Gr w2 w') 12 ?_
  have hS : Gr w2 w2.drew := (Gr.refl w2).drew
  refine H5 0 1 2 3 4 (c6 q1 q2 f0 f1 f2 f3) hS ?_; refine H5 5 6 7 8 9 (c6 q1 q2 f0 f1 f2 f3) hS ?_
  obtain ⟨wY, hwY⟩ : ∃ wY, w2.drew = wY := ⟨_, rfl⟩
  rw [hwY] at hS ⊢
  clear hwY
  have HGY := Lh (HG2.out.trans hS)
  refine Hr 10 rfl (fun K hK => ?_)
  go_simp
  refine ⟨trivial, ?_⟩
  refine (callsIn_wide.2 (CY.out _ hS)).mono ?_
  rintro e w3 ⟨v, raw, rfl, hO, hD⟩
  have HO := Lh hO
  have HD := Lh (show Dat wY w3 raw (cutW R tabs .byy p) by show Dat wY w3 raw ((joinL R.mul (p.getD (p.length - 2) []) (p.getD (p.length - 1) [])).take 61); rw [HP2.out.1, HP2.out.2]; exact hD)
  have hS : Gr w2 w3 := hS.trans hO.2
  obtain ⟨va, vc, rfl, _⟩ := hO.rd
  refine hK.out _ _ hS ?_
  clear hK K hO hD CY
  refine H1 11 tv hS ?_
  refine Hd ?_
  replace f0 := hS.cell f0
  replace f1 := hS.cell f1
  replace f2 := hS.cell f2
  replace f3 := hS.cell f3
  clear i3 i4 i5 z0 z1 z2 q1 q2 i1 i2 e1 e2 e1' e2' hS HT1 HT2
  first | (have z := zS; clear z; have CG := Lh (show Calls Tryz.prog 141 #[.agg #[.func (.func F.p) #[] F.pb, .func (.func F.t) #[] F.tb, .func (.func F.s) #[] F.sb, .func (.func F.f) #[] F.fb], .slice va raw.length vc] w3 _ from gathered_any F R G μ B wY w3 _ raw _ HO.out HD.out HL.out.1 (HF.out.gr HGY.out) HL.out.2.1 HL.out.2.2)) | (have CG := Lh (show Calls Tryz.prog 104 #[.agg #[.func (.func F.p) #[] F.pb, .func (.func F.t) #[] F.tb, .func (.func F.s) #[] F.sb, .func (.func F.f) #[] F.fb], .slice va raw.length vc] w3 _ from gathered_any F R G μ B wY w3 _ raw _ HO.out HD.out HL.out.1 (HF.out.gr HGY.out) HL.out.2.1 HL.out.2.2))
  generalize raw.length = rl at *
  obtain ⟨i0, hi, hz0, hz1, hz2⟩ := info_tab
  obtain ⟨olds, ho1, ho2, ho3⟩ := HP.out.olds (k := kk) (by omega)
  have HI := Lh (And.intro hi (And.intro hz0 (And.intro hz1 (And.intro hz2 (And.intro ho1 (And.intro ho2 ho3))))))
  have HK := Lh (And.intro hkn (And.intro hn (And.intro hnc (And.intro hnone hkp))))
  have s1 : (kk : Int) ≤ (c : Int) := by omega
  clear hi hz0 hz1 hz2 ho1 ho2 ho3 hn hnc hnone hkn hkp
  go_wp2_with (first
   | ((first | go_at_call 104 | go_at_call 141); (with_reducible refine CG.out.mono ?_); rintro e w9 ⟨aT, nT, cT, rfl, hT, gT⟩; have HT := Lh hT; have GT := Lh gT; clear hT gT CG)
   | (at_builtin; refine wpList_append_grows _ rfl _ _ 152 rfl 109 i0 _ 1 24 Tryz.underlying152 HI.out.1 HI.out.2.1 HI.out.2.2.1 HI.out.2.2.2.1 rfl (by decide) _ _ _ olds rfl (fun e => by have h1 := HK.out; have h2 := h1.2.2.2.1 e; omega) (by rw [Nat.mul_one]; exact HI.out.2.2.2.2.1) (fun b hb j u hu => ((HGY.out.trans GT.out).trans ((Gr.refl w9).alloc _)).cell (HI.out.2.2.2.2.2.1 b hb j u hu)) _ _ _ [.slice aT nT cT] rfl rfl (fun j u hu => one_cell w9 hu) (by simp [Value.oneCell']) (by omega) (by unfold maxLen; have := HK.out; omega) (by have := HK.out; omega) ?_; intro v3 w4 hown3 hg3; have H3 := Lh hown3; have G3 := Lh ((HGY.out.trans GT.out).trans (((Gr.refl w9).alloc (.cells #[.slice aT nT cT] 109)).grown hg3 (fun k hk => by cases hk))); have GL := Lh (((Gr.refl w9).alloc (.cells #[.slice aT nT cT] 109)).grown hg3 (fun k hk => by cases hk)); clear hown3 hg3)
   | (at_builtin; refine wpList_append_grows _ rfl _ _ 100 rfl 65 i0 _ 1 24 Tryz.underlying100 HI.out.1 HI.out.2.1 HI.out.2.2.1 HI.out.2.2.2.1 rfl (by decide) _ _ _ olds rfl (fun e => by have h1 := HK.out; have h2 := h1.2.2.2.1 e; omega) (by rw [Nat.mul_one]; exact HI.out.2.2.2.2.1) (fun b hb j u hu => ((HGY.out.trans GT.out).trans ((Gr.refl w9).alloc _)).cell (HI.out.2.2.2.2.2.1 b hb j u hu)) _ _ _ [.slice aT nT cT] rfl rfl (fun j u hu => one_cell w9 hu) (by simp [Value.oneCell']) (by omega) (by unfold maxLen; have := HK.out; omega) (by have := HK.out; omega) ?_; intro v3 w4 hown3 hg3; have H3 := Lh hown3; have G3 := Lh ((HGY.out.trans GT.out).trans (((Gr.refl w9).alloc (.cells #[.slice aT nT cT] 65)).grown hg3 (fun k hk => by cases hk))); have GL := Lh (((Gr.refl w9).alloc (.cells #[.slice aT nT cT] 65)).grown hg3 (fun k hk => by cases hk)); clear hown3 hg3)
   | go_in)
  obtain ⟨a', c', rfl, hpl⟩ := RdPl.push (p := p) (k := kk) HI.out.2.2.2.2.1 HI.out.2.2.2.2.2.2 HK.out.2.2.2.2 H3.out G3.out ((HT.out.gr GL.out).own)
  rw [← HKK.out] at hpl
  first | (have z := zS; clear z; refine bodyPost_ret (v := .tuple #[.slice a' (kk + 1) c', .bool _]) (by simp [results, Tryz.results107, go_sem]; rfl) rfl ?_) | (refine bodyPost_ret (v := .tuple #[.slice a' (kk + 1) c', .bool _]) (by simp [results, Tryz.results74, go_sem]; rfl) rfl ?_)
  exact ⟨_, _, _, rfl, hpl, G3.out⟩) : P := h
theorem does_byy (F : RF) (R : Rg SL) (G : SL → Prop) (μ : SL → Nat) (B : Nat) (w : World) (a : Option Addr) (n c : Nat) (tabs p : List (Tbl SL)) (fv : Value) (hp : RdPl w w a n c p) (hn : n ≤ 1000) (hF : RingOk F R G μ B w) (hL : (cutW R tabs .byy p).length ≤ 1000) (hG : ∀ x ∈ cutW R tabs .byy p, G x.2) (hM : sumT μ (cutW R tabs .byy p) ≤ B) (hk : 2 ≤ p.length) (hJ : (p.getD (p.length - 2) []).length ≤ 1000 ∧ (p.getD (p.length - 1) []).length ≤ 1000 ∧ JoinOk R G (p.getD (p.length - 2) []) ∧ JoinOk R G (p.getD (p.length - 1) [])) :
  Calls Tryz.prog 107 #[F.val, .agg #[.int .i64 (stp .byy).1, .int .i64 (stp .byy).2.1, .int .i64 (stp .byy).2.2], .slice a n c, fv] w (RetDo w (restW .byy p ++ [gath R (cutW R tabs .byy p)]) (okT R (gath R (cutW R tabs .byy p)))) := by have zS := trivial; exact scrTKs_does_byy
def fK (s : Wd) (T : Tbl SL) : Tbl SL := (T.filter fun x => keepsW s x.1).map fun x => (colsW s x.1, x.2)
theorem fK_take {s : Wd} {T : Tbl SL} {i : Nat} {r : List Int × SL} (h : T[i]? = some r) : fK s (T.take (i + 1)) = fK s (T.take i) ++ (if keepsW s r.1 = true then [(colsW s r.1, r.2)] else []) := by
 unfold fK
 rw [List.take_add_one, h, List.filter_append, List.map_append]
 congr 1
 show List.map _ (List.filter _ [r]) = _
 rw [List.filter_cons]
 split <;> rfl
theorem fK_len (s : Wd) (T : Tbl SL) : (fK s T).length ≤ T.length := by
 unfold fK
 rw [List.length_map]
 exact List.length_filter_le _ _
theorem wrap1 {n kk : Nat} (hkk : n = kk + 1) (hn : n ≤ 1000) : IntKind.i64.wrap ((n : Int) - 1) = (kk : Int) ∧ wrap64 ((n : Int) - 1) = (kk : Int) := by
 refine ⟨?_, ?_⟩
 ·rw [IntWalk.i64_in _ (by omega)]; omega
 rw [IntWalk.wrap64_in _ (by omega)]; omega
theorem scrTLs_does_pick {P : Prop} (h : P := by
  have hnp := hp.1
  have hnc := hp.2.1
  have hnone := hp.2.2.2.1
  have HP := Lh hp
  have HF := Lh hF
  have HL := Lh (And.intro hL (And.intro hG hM))
  first | (have z := zS; clear z; obtain ⟨w1, hw1⟩ : ∃ w1, w.alloc (.cells #[.func (.func F.p) #[] F.pb, .func (.func F.t) #[] F.tb, .func (.func F.s) #[] F.sb, .func (.func F.f) #[] F.fb] 117) = w1 := ⟨_, rfl⟩) | (obtain ⟨w1, hw1⟩ : ∃ w1, w.alloc (.cells #[.func (.func F.p) #[] F.pb, .func (.func F.t) #[] F.tb, .func (.func F.s) #[] F.sb, .func (.func F.f) #[] F.fb] 63) = w1 := ⟨_, rfl⟩)
  have g1 : Gr w w1 := hw1 ▸ (Gr.refl w).alloc _
  obtain ⟨f0, f1, f2, f3⟩ := BoxF.new hw1
  obtain ⟨w2, hw2⟩ : ∃ w2, w1.alloc (.cells #[.int .i64 (stp (.pick k m)).1, .int .i64 (stp (.pick k m)).2.1, .int .i64 (stp (.pick k m)).2.2] 103) = w2 := ⟨_, rfl⟩
  have g2 : Gr w1 w2 := hw2 ▸ (Gr.refl w1).alloc _
  have z0 : w2.cell? ⟨w1.heap.size, 0, none⟩ = some (.int .i64 (stp (.pick k m)).1) := by rw [← hw2]; simp
  have z1 : w2.cell? ⟨w1.heap.size, 1, none⟩ = some (.int .i64 (stp (.pick k m)).2.1) := by rw [← hw2]; simp
  have z2 : w2.cell? ⟨w1.heap.size, 2, none⟩ = some (.int .i64 (stp (.pick k m)).2.2) := by rw [← hw2]; simp
  replace f0 := g2.cell f0
  replace f1 := g2.cell f1
  replace f2 := g2.cell f2
  replace f3 := g2.cell f3
  have HG2 := Lh (g1.trans g2)
  unfold RF.val
  simp only [stp] at z0 z1 z2 hw2 ⊢
  clear hp hF hL hG hM g1 g2
  generalize hbx : w.heap.size = bx at *
  generalize hbw : w1.heap.size = bw at *
  obtain ⟨kk, hkk⟩ : ∃ kk, n = kk + 1 := ⟨n - 1, by omega⟩
  have hp2 : p.length = kk + 1 := by omega
  obtain ⟨b, o, a1, n1, c1, rfl, q1, t1⟩ := HP.out.at (k := kk) (by omega)
  replace q1 := HG2.out.cell q1
  have ht1 := (t1.gr HG2.out).own
  obtain ⟨X, hX, dX⟩ := ht1
  have HX := Lh hX
  have HDX := Lh dX
  have i1 : (kk : Int) < (n : Int) := by omega
  have HKK := Lh (show restW (.pick k m) p = p.take kk by show p.take (p.length - 1) = _; rw [hp2, Nat.add_sub_cancel])
  have HP2 := Lh (show p.getD (p.length - 1) [] = p.getD kk [] by rw [hp2]; rfl)
  have hkn : kk ≤ n := by omega
  have hkp : kk ≤ p.length := by omega
  have HC := Lh (show (∀ x ∈ p.getD kk [], colOk (.pick k m) x.1.length) ∧ (p.getD kk []).length ≤ 1000 by rw [← HP2.out]; exact ⟨hcol, hlen⟩)
  have HCut := Lh (show cutW R tabs (.pick k m) p = fK (.pick k m) (p.getD kk []) by rw [← HP2.out]; rfl)
  have HN2 := Lh (show n1 = (p.getD kk []).length ∧ n1 ≤ 1000 from ⟨t1.len, by rw [t1.len]; exact HC.out.2⟩)
  obtain ⟨e1, e1'⟩ := wrap1 hkk hn
  generalize hTT : p.getD kk [] = TT at *
  have HK0 := Lh (And.intro hkn (And.intro hn (And.intro hnc (And.intro hnone hkp))))
  clear t1 hnp hp2 hkk hX dX hcol hlen hk hTT hkn hn hnc hkp hnone
  first | (have z := zS; clear z; go_enter Tryz.func107, Tryz.ntmps107) | (go_enter Tryz.func74, Tryz.ntmps74)
  go_wp2_with fail
  clear q1 i1 e1 e1' hw1 hw2
  go_loopw [10, 27] (fun vo si wr => ∃ (i : Nat) (rawO : List Rw), si = .int .i64 i ∧ Hid (i ≤ n1) ∧ Hid (OwnR w2 wr vo rawO) ∧ Hid (Dat w2 wr rawO (fK (.pick k m) (TT.take i)))) (fun _ si _ => n1 - (intOf si).toNat)
  case atStart => exact ⟨0, [], rfl, Lh (Nat.zero_le _), Lh (OwnR.nil w2), Lh (Dat.nil _ _)⟩
  case round =>
   obtain ⟨i, rawO, rfl, Hi, HO, HDO⟩ := hrel
   obtain ⟨ao, co, rfl, _⟩ := HO.out.rd
   by_cases hlt : i < n1
   ·have i1 : (i : Int) < (n1 : Int) := by omega
    obtain ⟨b', o', x, rfl, hx, d1, d2⟩ := (HX.out.gr HO.out.2).at hlt
    obtain ⟨r, hr, xr, xo, xp⟩ := (HDX.out.gr HO.out.2).at hx
    have HTk := Lh (fK_take (s := (.pick k m)) hr)
    have hmem := List.mem_of_getElem? hr
    first | (have z := zS; clear z; obtain ⟨wA, hwA⟩ : ∃ wA, wr.alloc (.cells #[.slice x.a x.n x.c, .map (some x.y)] 121) = wA := ⟨_, rfl⟩) | (obtain ⟨wA, hwA⟩ : ∃ wA, wr.alloc (.cells #[.slice x.a x.n x.c, .int .i64 x.y] 98) = wA := ⟨_, rfl⟩)
    have gA : Gr wr wA := hwA ▸ (Gr.refl wr).alloc _
    obtain ⟨zx0, zx1⟩ := boxr' hwA rfl
    have HOA := Lh (HO.out.gr gA)
    have HDA := Lh (HDO.out.gr gA)
    first | (have z := zS; clear z; have HXr := Lh (show Rd3 wA x.a x.n x.c r.1 ∧ Old EW wA 3 x.n x.a ∧ Rep wA x.y r.2 from ⟨xr.gr gA, xo.gr gA, xp.gr gA⟩)) | (have HXr := Lh (show Rd3 wA x.a x.n x.c r.1 ∧ Old w2 wA 3 x.n x.a ∧ Rep wA x.y r.2 from ⟨xr.gr gA, xo.gr gA, xp.gr gA⟩))
    have hcc := HC.out.1 r hmem
    have CK := Lh (show Calls Tryz.prog 102 #[.agg #[.int .i64 4, .int .i64 (k : Nat), .int .i64 m], .slice x.a x.n x.c] wA (RetB (keepsW (.pick k m) r.1) wA) from keeps_any (.pick k m) x.a x.n x.c r.1 wA (xr.gr gA) (by rw [xr.1]; exact hcc))
    have u0 := (HO.out.2.trans gA).cell z0
    have u1 := (HO.out.2.trans gA).cell z1
    have u2 := (HO.out.2.trans gA).cell z2
    have HMl := Lh (show rawO.length ≤ 1000 from by
     have h1 := HDO.out.1
     have h2 := HN2.out
     have h3 := fK_len (.pick k m) (TT.take i)
     rw [List.length_take] at h3; omega)
    have HLi := Lh hlt
    generalize hq : keepsW (.pick k m) r.1 = q at *
    have HQ := Lh hq
    clear hx hr xr xo xp gA hlt HO HDO hmem hcc hq
    obtain ⟨xa, xn, xc, xy⟩ := x
    simp only at d1 d2 hwA HXr zx0 zx1 CK
    generalize hmm : rawO.length = m' at *
    have HMm := Lh hmm
    clear hmm
    cases q with
    | false =>
     have e3 := step64 HLi.out HN2.out.2
     clear z0 z1 z2 f0 f1 f2 f3
     go_wp2_with fail
     refine CK.out.mono ?_
     rintro e wB ⟨rfl, gB⟩
     have HOB := Lh (HOA.out.gr gB)
     have HDB := Lh (HDA.out.gr gB)
     clear d1 d2 hwA gB CK u0 u1 u2 zx0 zx1 i1
     go_wp2_with fail
     go_roundw
     case rel => exact ⟨i + 1, _, by first | (rw [e3]) | rfl | simp, Lh (Nat.succ_le_of_lt HLi.out), HOB, Lh (by rw [HTk.out]; simpa using HDB.out)⟩
     case measure => first | (rw [e3]; exact fall HLi.out) | exact fall HLi.out
    | true =>
     have e3 := step64 HLi.out HN2.out.2
     clear z0 z1 z2 f0 f1 f2 f3
     go_wp2_with fail
     refine CK.out.mono ?_
     rintro e wB ⟨rfl, gB⟩
     have HOB := Lh (HOA.out.gr gB)
     have HDB := Lh (HDA.out.gr gB)
     first | (have z := zS; clear z; have HXB := Lh (show Rd3 wB xa xn xc r.1 ∧ Old EW wB 3 xn xa ∧ Rep wB xy r.2 from ⟨HXr.out.1.gr gB, HXr.out.2.1.gr gB, HXr.out.2.2.gr gB⟩)) | (have HXB := Lh (show Rd3 wB xa xn xc r.1 ∧ Old w2 wB 3 xn xa ∧ Rep wB xy r.2 from ⟨HXr.out.1.gr gB, HXr.out.2.1.gr gB, HXr.out.2.2.gr gB⟩))
     replace zx0 := gB.cell zx0
     replace zx1 := gB.cell zx1
     replace u0 := gB.cell u0
     clear d1 d2 hwA gB CK u1 u2 i1
     go_wp2_with (first
      | (at_builtin; refine wpList_app_row rfl _ _ 108 rfl Tryz.underlying108 _ rawO rfl (HOB.out.alloc _) _ ⟨xa, xn, xc, xy⟩ rfl (boxr' rfl rfl) (by have h1 := HMl.out; have h2 := HMm.out; clear e3; omega) ?_; intro v3 w4 hown3 hg3; have HO3 := Lh hown3; have HD3 := Lh (((HDB.out.gr ((Gr.refl wB).alloc _)).snoc (x := ⟨xa, xn, xc, xy⟩) (r := (r.1, r.2)) (HXB.out.1.gr ((Gr.refl wB).alloc _)) (HXB.out.2.1.gr ((Gr.refl wB).alloc _)) (HXB.out.2.2.gr ((Gr.refl wB).alloc _))).grown (v := .slice ao m' co) (HOB.out.alloc _) hg3); clear hown3 hg3)
      | (at_builtin; refine wpList_app_row rfl _ _ 64 rfl Tryz.underlying64 _ rawO rfl (HOB.out.alloc _) _ ⟨xa, xn, xc, xy⟩ rfl (boxr' rfl rfl) (by have h1 := HMl.out; have h2 := HMm.out; clear e3; omega) ?_; intro v3 w4 hown3 hg3; have HO3 := Lh hown3; have HD3 := Lh (((HDB.out.gr ((Gr.refl wB).alloc _)).snoc (x := ⟨xa, xn, xc, xy⟩) (r := (r.1, r.2)) (HXB.out.1.gr ((Gr.refl wB).alloc _)) (HXB.out.2.1.gr ((Gr.refl wB).alloc _)) (HXB.out.2.2.gr ((Gr.refl wB).alloc _))).grown (v := .slice ao m' co) (HOB.out.alloc _) hg3); clear hown3 hg3)
      | go_in)
     go_roundw
     case rel => exact ⟨i + 1, _, by first | (rw [e3]) | rfl | simp, Lh (Nat.succ_le_of_lt HLi.out), HO3, Lh (by rw [HTk.out]; first | (rw [if_pos HQ.out]; exact HD3.out) | (rw [if_pos trivial]; exact HD3.out))⟩
     case measure => first | (rw [e3]; exact fall HLi.out) | exact fall HLi.out
   have hin : i = n1 := by have := Hi.out; omega
   subst hin
   have i1 : ¬ (i : Int) < (i : Int) := by omega
   have HD := Lh (show Dat w2 wr rawO (cutW R tabs (.pick k m) p) by
    have h0 := HDO.out
    rw [HCut.out]
    rwa [List.take_of_length_le (show TT.length ≤ i by have := HN2.out; omega)] at h0)
   replace f0 := HO.out.2.cell f0
   replace f1 := HO.out.2.cell f1
   replace f2 := HO.out.2.cell f2
   replace f3 := HO.out.2.cell f3
   obtain ⟨hkn, hn, hnc, hnone, hkp⟩ := HK0.out
   clear hlt HDO z0 z1 z2 HX HDX
   first | (have z := zS; clear z; have CG := Lh (show Calls Tryz.prog 141 #[.agg #[.func (.func F.p) #[] F.pb, .func (.func F.t) #[] F.tb, .func (.func F.s) #[] F.sb, .func (.func F.f) #[] F.fb], .slice ao rawO.length co] wr _ from gathered_any F R G μ B w2 wr _ rawO _ HO.out HD.out HL.out.1 (HF.out.gr HG2.out) HL.out.2.1 HL.out.2.2)) | (have CG := Lh (show Calls Tryz.prog 104 #[.agg #[.func (.func F.p) #[] F.pb, .func (.func F.t) #[] F.tb, .func (.func F.s) #[] F.sb, .func (.func F.f) #[] F.fb], .slice ao rawO.length co] wr _ from gathered_any F R G μ B w2 wr _ rawO _ HO.out HD.out HL.out.1 (HF.out.gr HG2.out) HL.out.2.1 HL.out.2.2))
   generalize rawO.length = rl at *
   obtain ⟨i0, hi, hz0, hz1, hz2⟩ := info_tab
   obtain ⟨olds, ho1, ho2, ho3⟩ := HP.out.olds (k := kk) (by omega)
   have HI := Lh (And.intro hi (And.intro hz0 (And.intro hz1 (And.intro hz2 (And.intro ho1 (And.intro ho2 ho3))))))
   have HK := Lh (And.intro hkn (And.intro hn (And.intro hnc (And.intro hnone hkp))))
   have s1 : (kk : Int) ≤ (c : Int) := by omega
   clear hi hz0 hz1 hz2 ho1 ho2 ho3 hn hnc hnone hkn hkp
   go_wp2_with (first
    | ((first | go_at_call 104 | go_at_call 141); (with_reducible refine CG.out.mono ?_); rintro e w9 ⟨aT, nT, cT, rfl, hT, gT⟩; have HT := Lh hT; have GT := Lh gT; clear hT gT CG)
    | (at_builtin; refine wpList_append_grows _ rfl _ _ 152 rfl 109 i0 _ 1 24 Tryz.underlying152 HI.out.1 HI.out.2.1 HI.out.2.2.1 HI.out.2.2.2.1 rfl (by decide) _ _ _ olds rfl (fun e => by have h1 := HK.out; have h2 := h1.2.2.2.1 e; omega) (by rw [Nat.mul_one]; exact HI.out.2.2.2.2.1) (fun b hb j u hu => ((HG2.out.trans GT.out).trans ((Gr.refl w9).alloc _)).cell (HI.out.2.2.2.2.2.1 b hb j u hu)) _ _ _ [.slice aT nT cT] rfl rfl (fun j u hu => one_cell w9 hu) (by simp [Value.oneCell']) (by omega) (by unfold maxLen; have := HK.out; omega) (by have := HK.out; omega) ?_; intro v3 w4 hown3 hg3; have H3 := Lh hown3; have G3 := Lh ((HG2.out.trans GT.out).trans (((Gr.refl w9).alloc (.cells #[.slice aT nT cT] 109)).grown hg3 (fun k hk => by cases hk))); have GL := Lh (((Gr.refl w9).alloc (.cells #[.slice aT nT cT] 109)).grown hg3 (fun k hk => by cases hk)); clear hown3 hg3)
    | (at_builtin; refine wpList_append_grows _ rfl _ _ 100 rfl 65 i0 _ 1 24 Tryz.underlying100 HI.out.1 HI.out.2.1 HI.out.2.2.1 HI.out.2.2.2.1 rfl (by decide) _ _ _ olds rfl (fun e => by have h1 := HK.out; have h2 := h1.2.2.2.1 e; omega) (by rw [Nat.mul_one]; exact HI.out.2.2.2.2.1) (fun b hb j u hu => ((HG2.out.trans GT.out).trans ((Gr.refl w9).alloc _)).cell (HI.out.2.2.2.2.2.1 b hb j u hu)) _ _ _ [.slice aT nT cT] rfl rfl (fun j u hu => one_cell w9 hu) (by simp [Value.oneCell']) (by omega) (by unfold maxLen; have := HK.out; omega) (by have := HK.out; omega) ?_; intro v3 w4 hown3 hg3; have H3 := Lh hown3; have G3 := Lh ((HG2.out.trans GT.out).trans (((Gr.refl w9).alloc (.cells #[.slice aT nT cT] 65)).grown hg3 (fun k hk => by cases hk))); have GL := Lh (((Gr.refl w9).alloc (.cells #[.slice aT nT cT] 65)).grown hg3 (fun k hk => by cases hk)); clear hown3 hg3)
    | go_in)
   obtain ⟨a', c', rfl, hpl⟩ := RdPl.push (p := p) (k := kk) HI.out.2.2.2.2.1 HI.out.2.2.2.2.2.2 HK.out.2.2.2.2 H3.out G3.out ((HT.out.gr GL.out).own)
   rw [← HKK.out] at hpl
   first | (have z := zS; clear z; refine bodyPost_ret (v := .tuple #[.slice a' (kk + 1) c', .bool _]) (by simp [results, Tryz.results107, go_sem]; rfl) rfl ?_) | (refine bodyPost_ret (v := .tuple #[.slice a' (kk + 1) c', .bool _]) (by simp [results, Tryz.results74, go_sem]; rfl) rfl ?_)
   exact ⟨_, _, _, rfl, hpl, G3.out⟩) : P := h
theorem does_pick (F : RF) (R : Rg SL) (G : SL → Prop) (μ : SL → Nat) (B : Nat) (w : World) (a : Option Addr) (n c : Nat) (tabs p : List (Tbl SL)) (k : Nat) (m : Int) (fv : Value) (hp : RdPl w w a n c p) (hn : n ≤ 1000) (hF : RingOk F R G μ B w) (hL : (cutW R tabs (.pick k m) p).length ≤ 1000) (hG : ∀ x ∈ cutW R tabs (.pick k m) p, G x.2) (hM : sumT μ (cutW R tabs (.pick k m) p) ≤ B) (hk : 1 ≤ p.length) (hcol : ∀ x ∈ p.getD (p.length - 1) [], colOk (.pick k m) x.1.length) (hlen : (p.getD (p.length - 1) []).length ≤ 1000) :
  Calls Tryz.prog 107 #[F.val, .agg #[.int .i64 (stp (.pick k m)).1, .int .i64 (stp (.pick k m)).2.1, .int .i64 (stp (.pick k m)).2.2], .slice a n c, fv] w (RetDo w (restW (.pick k m) p ++ [gath R (cutW R tabs (.pick k m) p)]) (okT R (gath R (cutW R tabs (.pick k m) p)))) := by have zS := trivial; exact scrTLs_does_pick
theorem scrTMs_does_same {P : Prop} (h : P := by
  have hnp := hp.1
  have hnc := hp.2.1
  have hnone := hp.2.2.2.1
  have HP := Lh hp
  have HF := Lh hF
  have HL := Lh (And.intro hL (And.intro hG hM))
  first | (have z := zS; clear z; obtain ⟨w1, hw1⟩ : ∃ w1, w.alloc (.cells #[.func (.func F.p) #[] F.pb, .func (.func F.t) #[] F.tb, .func (.func F.s) #[] F.sb, .func (.func F.f) #[] F.fb] 117) = w1 := ⟨_, rfl⟩) | (obtain ⟨w1, hw1⟩ : ∃ w1, w.alloc (.cells #[.func (.func F.p) #[] F.pb, .func (.func F.t) #[] F.tb, .func (.func F.s) #[] F.sb, .func (.func F.f) #[] F.fb] 63) = w1 := ⟨_, rfl⟩)
  have g1 : Gr w w1 := hw1 ▸ (Gr.refl w).alloc _
  obtain ⟨f0, f1, f2, f3⟩ := BoxF.new hw1
  obtain ⟨w2, hw2⟩ : ∃ w2, w1.alloc (.cells #[.int .i64 (stp (.same k m)).1, .int .i64 (stp (.same k m)).2.1, .int .i64 (stp (.same k m)).2.2] 103) = w2 := ⟨_, rfl⟩
  have g2 : Gr w1 w2 := hw2 ▸ (Gr.refl w1).alloc _
  have z0 : w2.cell? ⟨w1.heap.size, 0, none⟩ = some (.int .i64 (stp (.same k m)).1) := by rw [← hw2]; simp
  have z1 : w2.cell? ⟨w1.heap.size, 1, none⟩ = some (.int .i64 (stp (.same k m)).2.1) := by rw [← hw2]; simp
  have z2 : w2.cell? ⟨w1.heap.size, 2, none⟩ = some (.int .i64 (stp (.same k m)).2.2) := by rw [← hw2]; simp
  replace f0 := g2.cell f0
  replace f1 := g2.cell f1
  replace f2 := g2.cell f2
  replace f3 := g2.cell f3
  have HG2 := Lh (g1.trans g2)
  unfold RF.val
  simp only [stp] at z0 z1 z2 hw2 ⊢
  clear hp hF hL hG hM g1 g2
  generalize hbx : w.heap.size = bx at *
  generalize hbw : w1.heap.size = bw at *
  obtain ⟨kk, hkk⟩ : ∃ kk, n = kk + 1 := ⟨n - 1, by omega⟩
  have hp2 : p.length = kk + 1 := by omega
  obtain ⟨b, o, a1, n1, c1, rfl, q1, t1⟩ := HP.out.at (k := kk) (by omega)
  replace q1 := HG2.out.cell q1
  have ht1 := (t1.gr HG2.out).own
  obtain ⟨X, hX, dX⟩ := ht1
  have HX := Lh hX
  have HDX := Lh dX
  have i1 : (kk : Int) < (n : Int) := by omega
  have HKK := Lh (show restW (.same k m) p = p.take kk by show p.take (p.length - 1) = _; rw [hp2, Nat.add_sub_cancel])
  have HP2 := Lh (show p.getD (p.length - 1) [] = p.getD kk [] by rw [hp2]; rfl)
  have hkn : kk ≤ n := by omega
  have hkp : kk ≤ p.length := by omega
  have HC := Lh (show (∀ x ∈ p.getD kk [], colOk (.same k m) x.1.length) ∧ (p.getD kk []).length ≤ 1000 by rw [← HP2.out]; exact ⟨hcol, hlen⟩)
  have HCut := Lh (show cutW R tabs (.same k m) p = fK (.same k m) (p.getD kk []) by rw [← HP2.out]; rfl)
  have HN2 := Lh (show n1 = (p.getD kk []).length ∧ n1 ≤ 1000 from ⟨t1.len, by rw [t1.len]; exact HC.out.2⟩)
  obtain ⟨e1, e1'⟩ := wrap1 hkk hn
  generalize hTT : p.getD kk [] = TT at *
  have HK0 := Lh (And.intro hkn (And.intro hn (And.intro hnc (And.intro hnone hkp))))
  clear t1 hnp hp2 hkk hX dX hcol hlen hk hTT hkn hn hnc hkp hnone
  first | (have z := zS; clear z; go_enter Tryz.func107, Tryz.ntmps107) | (go_enter Tryz.func74, Tryz.ntmps74)
  go_wp2_with fail
  clear q1 i1 e1 e1' hw1 hw2
  go_loopw [10, 27] (fun vo si wr => ∃ (i : Nat) (rawO : List Rw), si = .int .i64 i ∧ Hid (i ≤ n1) ∧ Hid (OwnR w2 wr vo rawO) ∧ Hid (Dat w2 wr rawO (fK (.same k m) (TT.take i)))) (fun _ si _ => n1 - (intOf si).toNat)
  case atStart => exact ⟨0, [], rfl, Lh (Nat.zero_le _), Lh (OwnR.nil w2), Lh (Dat.nil _ _)⟩
  case round =>
   obtain ⟨i, rawO, rfl, Hi, HO, HDO⟩ := hrel
   obtain ⟨ao, co, rfl, _⟩ := HO.out.rd
   by_cases hlt : i < n1
   ·have i1 : (i : Int) < (n1 : Int) := by omega
    obtain ⟨b', o', x, rfl, hx, d1, d2⟩ := (HX.out.gr HO.out.2).at hlt
    obtain ⟨r, hr, xr, xo, xp⟩ := (HDX.out.gr HO.out.2).at hx
    have HTk := Lh (fK_take (s := (.same k m)) hr)
    have hmem := List.mem_of_getElem? hr
    first | (have z := zS; clear z; obtain ⟨wA, hwA⟩ : ∃ wA, wr.alloc (.cells #[.slice x.a x.n x.c, .map (some x.y)] 121) = wA := ⟨_, rfl⟩) | (obtain ⟨wA, hwA⟩ : ∃ wA, wr.alloc (.cells #[.slice x.a x.n x.c, .int .i64 x.y] 98) = wA := ⟨_, rfl⟩)
    have gA : Gr wr wA := hwA ▸ (Gr.refl wr).alloc _
    obtain ⟨zx0, zx1⟩ := boxr' hwA rfl
    have HOA := Lh (HO.out.gr gA)
    have HDA := Lh (HDO.out.gr gA)
    first | (have z := zS; clear z; have HXr := Lh (show Rd3 wA x.a x.n x.c r.1 ∧ Old EW wA 3 x.n x.a ∧ Rep wA x.y r.2 from ⟨xr.gr gA, xo.gr gA, xp.gr gA⟩)) | (have HXr := Lh (show Rd3 wA x.a x.n x.c r.1 ∧ Old w2 wA 3 x.n x.a ∧ Rep wA x.y r.2 from ⟨xr.gr gA, xo.gr gA, xp.gr gA⟩))
    have hcc := HC.out.1 r hmem
    have CK := Lh (show Calls Tryz.prog 102 #[.agg #[.int .i64 5, .int .i64 (k : Nat), .int .i64 (m : Nat)], .slice x.a x.n x.c] wA (RetB (keepsW (.same k m) r.1) wA) from keeps_any (.same k m) x.a x.n x.c r.1 wA (xr.gr gA) (by rw [xr.1]; exact hcc))
    have u0 := (HO.out.2.trans gA).cell z0
    have u1 := (HO.out.2.trans gA).cell z1
    have u2 := (HO.out.2.trans gA).cell z2
    have HMl := Lh (show rawO.length ≤ 1000 from by
     have h1 := HDO.out.1
     have h2 := HN2.out
     have h3 := fK_len (.same k m) (TT.take i)
     rw [List.length_take] at h3; omega)
    have HLi := Lh hlt
    generalize hq : keepsW (.same k m) r.1 = q at *
    have HQ := Lh hq
    clear hx hr xr xo xp gA hlt HO HDO hmem hcc hq
    obtain ⟨xa, xn, xc, xy⟩ := x
    simp only at d1 d2 hwA HXr zx0 zx1 CK
    generalize hmm : rawO.length = m' at *
    have HMm := Lh hmm
    clear hmm
    cases q with
    | false =>
     have e3 := step64 HLi.out HN2.out.2
     clear z0 z1 z2 f0 f1 f2 f3
     go_wp2_with fail
     refine CK.out.mono ?_
     rintro e wB ⟨rfl, gB⟩
     have HOB := Lh (HOA.out.gr gB)
     have HDB := Lh (HDA.out.gr gB)
     clear d1 d2 hwA gB CK u0 u1 u2 zx0 zx1 i1
     go_wp2_with fail
     go_roundw
     case rel => exact ⟨i + 1, _, by first | (rw [e3]) | rfl | simp, Lh (Nat.succ_le_of_lt HLi.out), HOB, Lh (by rw [HTk.out]; simpa using HDB.out)⟩
     case measure => first | (rw [e3]; exact fall HLi.out) | exact fall HLi.out
    | true =>
     have e3 := step64 HLi.out HN2.out.2
     clear z0 z1 z2 f0 f1 f2 f3
     go_wp2_with fail
     refine CK.out.mono ?_
     rintro e wB ⟨rfl, gB⟩
     have HOB := Lh (HOA.out.gr gB)
     have HDB := Lh (HDA.out.gr gB)
     first | (have z := zS; clear z; have HXB := Lh (show Rd3 wB xa xn xc r.1 ∧ Old EW wB 3 xn xa ∧ Rep wB xy r.2 from ⟨HXr.out.1.gr gB, HXr.out.2.1.gr gB, HXr.out.2.2.gr gB⟩)) | (have HXB := Lh (show Rd3 wB xa xn xc r.1 ∧ Old w2 wB 3 xn xa ∧ Rep wB xy r.2 from ⟨HXr.out.1.gr gB, HXr.out.2.1.gr gB, HXr.out.2.2.gr gB⟩))
     replace zx0 := gB.cell zx0
     replace zx1 := gB.cell zx1
     replace u0 := gB.cell u0
     clear d1 d2 hwA gB CK u1 u2 i1
     go_wp2_with (first
      | (at_builtin; refine wpList_app_row rfl _ _ 108 rfl Tryz.underlying108 _ rawO rfl (HOB.out.alloc _) _ ⟨xa, xn, xc, xy⟩ rfl (boxr' rfl rfl) (by have h1 := HMl.out; have h2 := HMm.out; clear e3; omega) ?_; intro v3 w4 hown3 hg3; have HO3 := Lh hown3; have HD3 := Lh (((HDB.out.gr ((Gr.refl wB).alloc _)).snoc (x := ⟨xa, xn, xc, xy⟩) (r := (r.1, r.2)) (HXB.out.1.gr ((Gr.refl wB).alloc _)) (HXB.out.2.1.gr ((Gr.refl wB).alloc _)) (HXB.out.2.2.gr ((Gr.refl wB).alloc _))).grown (v := .slice ao m' co) (HOB.out.alloc _) hg3); clear hown3 hg3)
      | (at_builtin; refine wpList_app_row rfl _ _ 64 rfl Tryz.underlying64 _ rawO rfl (HOB.out.alloc _) _ ⟨xa, xn, xc, xy⟩ rfl (boxr' rfl rfl) (by have h1 := HMl.out; have h2 := HMm.out; clear e3; omega) ?_; intro v3 w4 hown3 hg3; have HO3 := Lh hown3; have HD3 := Lh (((HDB.out.gr ((Gr.refl wB).alloc _)).snoc (x := ⟨xa, xn, xc, xy⟩) (r := (r.1, r.2)) (HXB.out.1.gr ((Gr.refl wB).alloc _)) (HXB.out.2.1.gr ((Gr.refl wB).alloc _)) (HXB.out.2.2.gr ((Gr.refl wB).alloc _))).grown (v := .slice ao m' co) (HOB.out.alloc _) hg3); clear hown3 hg3)
      | go_in)
     go_roundw
     case rel => exact ⟨i + 1, _, by first | (rw [e3]) | rfl | simp, Lh (Nat.succ_le_of_lt HLi.out), HO3, Lh (by rw [HTk.out]; first | (rw [if_pos HQ.out]; exact HD3.out) | (rw [if_pos trivial]; exact HD3.out))⟩
     case measure => first | (rw [e3]; exact fall HLi.out) | exact fall HLi.out
   have hin : i = n1 := by have := Hi.out; omega
   subst hin
   have i1 : ¬ (i : Int) < (i : Int) := by omega
   have HD := Lh (show Dat w2 wr rawO (cutW R tabs (.same k m) p) by
    have h0 := HDO.out
    rw [HCut.out]
    rwa [List.take_of_length_le (show TT.length ≤ i by have := HN2.out; omega)] at h0)
   replace f0 := HO.out.2.cell f0
   replace f1 := HO.out.2.cell f1
   replace f2 := HO.out.2.cell f2
   replace f3 := HO.out.2.cell f3
   obtain ⟨hkn, hn, hnc, hnone, hkp⟩ := HK0.out
   clear hlt HDO z0 z1 z2 HX HDX
   first | (have z := zS; clear z; have CG := Lh (show Calls Tryz.prog 141 #[.agg #[.func (.func F.p) #[] F.pb, .func (.func F.t) #[] F.tb, .func (.func F.s) #[] F.sb, .func (.func F.f) #[] F.fb], .slice ao rawO.length co] wr _ from gathered_any F R G μ B w2 wr _ rawO _ HO.out HD.out HL.out.1 (HF.out.gr HG2.out) HL.out.2.1 HL.out.2.2)) | (have CG := Lh (show Calls Tryz.prog 104 #[.agg #[.func (.func F.p) #[] F.pb, .func (.func F.t) #[] F.tb, .func (.func F.s) #[] F.sb, .func (.func F.f) #[] F.fb], .slice ao rawO.length co] wr _ from gathered_any F R G μ B w2 wr _ rawO _ HO.out HD.out HL.out.1 (HF.out.gr HG2.out) HL.out.2.1 HL.out.2.2))
   generalize rawO.length = rl at *
   obtain ⟨i0, hi, hz0, hz1, hz2⟩ := info_tab
   obtain ⟨olds, ho1, ho2, ho3⟩ := HP.out.olds (k := kk) (by omega)
   have HI := Lh (And.intro hi (And.intro hz0 (And.intro hz1 (And.intro hz2 (And.intro ho1 (And.intro ho2 ho3))))))
   have HK := Lh (And.intro hkn (And.intro hn (And.intro hnc (And.intro hnone hkp))))
   have s1 : (kk : Int) ≤ (c : Int) := by omega
   clear hi hz0 hz1 hz2 ho1 ho2 ho3 hn hnc hnone hkn hkp
   go_wp2_with (first
    | ((first | go_at_call 104 | go_at_call 141); (with_reducible refine CG.out.mono ?_); rintro e w9 ⟨aT, nT, cT, rfl, hT, gT⟩; have HT := Lh hT; have GT := Lh gT; clear hT gT CG)
    | (at_builtin; refine wpList_append_grows _ rfl _ _ 152 rfl 109 i0 _ 1 24 Tryz.underlying152 HI.out.1 HI.out.2.1 HI.out.2.2.1 HI.out.2.2.2.1 rfl (by decide) _ _ _ olds rfl (fun e => by have h1 := HK.out; have h2 := h1.2.2.2.1 e; omega) (by rw [Nat.mul_one]; exact HI.out.2.2.2.2.1) (fun b hb j u hu => ((HG2.out.trans GT.out).trans ((Gr.refl w9).alloc _)).cell (HI.out.2.2.2.2.2.1 b hb j u hu)) _ _ _ [.slice aT nT cT] rfl rfl (fun j u hu => one_cell w9 hu) (by simp [Value.oneCell']) (by omega) (by unfold maxLen; have := HK.out; omega) (by have := HK.out; omega) ?_; intro v3 w4 hown3 hg3; have H3 := Lh hown3; have G3 := Lh ((HG2.out.trans GT.out).trans (((Gr.refl w9).alloc (.cells #[.slice aT nT cT] 109)).grown hg3 (fun k hk => by cases hk))); have GL := Lh (((Gr.refl w9).alloc (.cells #[.slice aT nT cT] 109)).grown hg3 (fun k hk => by cases hk)); clear hown3 hg3)
    | (at_builtin; refine wpList_append_grows _ rfl _ _ 100 rfl 65 i0 _ 1 24 Tryz.underlying100 HI.out.1 HI.out.2.1 HI.out.2.2.1 HI.out.2.2.2.1 rfl (by decide) _ _ _ olds rfl (fun e => by have h1 := HK.out; have h2 := h1.2.2.2.1 e; omega) (by rw [Nat.mul_one]; exact HI.out.2.2.2.2.1) (fun b hb j u hu => ((HG2.out.trans GT.out).trans ((Gr.refl w9).alloc _)).cell (HI.out.2.2.2.2.2.1 b hb j u hu)) _ _ _ [.slice aT nT cT] rfl rfl (fun j u hu => one_cell w9 hu) (by simp [Value.oneCell']) (by omega) (by unfold maxLen; have := HK.out; omega) (by have := HK.out; omega) ?_; intro v3 w4 hown3 hg3; have H3 := Lh hown3; have G3 := Lh ((HG2.out.trans GT.out).trans (((Gr.refl w9).alloc (.cells #[.slice aT nT cT] 65)).grown hg3 (fun k hk => by cases hk))); have GL := Lh (((Gr.refl w9).alloc (.cells #[.slice aT nT cT] 65)).grown hg3 (fun k hk => by cases hk)); clear hown3 hg3)
    | go_in)
   obtain ⟨a', c', rfl, hpl⟩ := RdPl.push (p := p) (k := kk) HI.out.2.2.2.2.1 HI.out.2.2.2.2.2.2 HK.out.2.2.2.2 H3.out G3.out ((HT.out.gr GL.out).own)
   rw [← HKK.out] at hpl
   first | (have z := zS; clear z; refine bodyPost_ret (v := .tuple #[.slice a' (kk + 1) c', .bool _]) (by simp [results, Tryz.results107, go_sem]; rfl) rfl ?_) | (refine bodyPost_ret (v := .tuple #[.slice a' (kk + 1) c', .bool _]) (by simp [results, Tryz.results74, go_sem]; rfl) rfl ?_)
   exact ⟨_, _, _, rfl, hpl, G3.out⟩) : P := h
theorem does_same (F : RF) (R : Rg SL) (G : SL → Prop) (μ : SL → Nat) (B : Nat) (w : World) (a : Option Addr) (n c : Nat) (tabs p : List (Tbl SL)) (k m : Nat) (fv : Value) (hp : RdPl w w a n c p) (hn : n ≤ 1000) (hF : RingOk F R G μ B w) (hL : (cutW R tabs (.same k m) p).length ≤ 1000) (hG : ∀ x ∈ cutW R tabs (.same k m) p, G x.2) (hM : sumT μ (cutW R tabs (.same k m) p) ≤ B) (hk : 1 ≤ p.length) (hcol : ∀ x ∈ p.getD (p.length - 1) [], colOk (.same k m) x.1.length) (hlen : (p.getD (p.length - 1) []).length ≤ 1000) :
  Calls Tryz.prog 107 #[F.val, .agg #[.int .i64 (stp (.same k m)).1, .int .i64 (stp (.same k m)).2.1, .int .i64 (stp (.same k m)).2.2], .slice a n c, fv] w (RetDo w (restW (.same k m) p ++ [gath R (cutW R tabs (.same k m) p)]) (okT R (gath R (cutW R tabs (.same k m) p)))) := by have zS := trivial; exact scrTMs_does_same
end Go.Proofs.YtehdemcfeoiecaaGreatDoor.RS
