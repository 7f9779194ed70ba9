import Derived.Test.YtehdemcfeoiecaaGreatDoorA19
set_option maxHeartbeats 64000000
set_option maxRecDepth 100000
namespace Go.Proofs.YtehdemcfeoiecaaGreatDoor.RI
open Go.RowKit Go.Firn Go.Firn.Tb
def cutW (R : Rg Int) (tabs : List (Tbl Int)) (s : Wd) (p : List (Tbl Int)) : Tbl Int := match s with
 | .byy => (rowsW R.mul tabs s p).take 61
 | s => rowsW R.mul tabs s p
def RetDo (w : World) (p : List (Tbl Int)) (b : Bool) (e : Ending) (w' : World) : Prop := ∃ a n c, e = .returned (.tuple #[.slice a n c, .bool b]) ∧ RdPl w' w' a n c p ∧ Gr w w'
theorem wraps {n kk : Nat} (hkk : n = kk + 2) (hn : n ≤ 1000) : IntKind.i64.wrap ((n : Int) - 2) = (kk : Int) ∧ IntKind.i64.wrap ((kk : Int) + 1) = ((kk + 1 : Nat) : Int) ∧ wrap64 ((n : Int) - 2) = (kk : Int) ∧ wrap64 ((kk : Int) + 1) = ((kk + 1 : Nat) : Int) := by
 refine ⟨?_, ?_, ?_, ?_⟩
 ·rw [IntWalk.i64_in _ (by omega)]; omega
 ·rw [IntWalk.i64_in _ (by omega)]; omega
 ·rw [IntWalk.wrap64_in _ (by omega)]; omega
 rw [IntWalk.wrap64_in _ (by omega)]; omega
theorem one_cell (w : World) {u v : Value} {e : TypeId} {j : Nat} (hu : [v][j]? = some u) : (w.alloc (.cells #[v] e)).cell? ((⟨w.heap.size, 0, none⟩ : Addr).add j) = some u := by
 cases j with
 | zero =>
  simp only [List.getElem?_cons_zero, Option.some.injEq] at hu
  subst hu
  rw [add_flat rfl]
  simp
 | succ j => simp at hu
theorem does_put (F : RF) (R : Rg Int) (G : Int → Prop) (μ : Int → Nat) (B : Nat) (w : World) (a : Option Addr) (n c : Nat) (tabs p : List (Tbl Int)) (k : Nat) (hp : RdPl w w a n c p) (hn : n ≤ 1000) (hF : RingOk F R G μ B w) (hL : (cutW R tabs (.put k) p).length ≤ 1000) (hG : ∀ x ∈ cutW R tabs (.put k) p, G x.2) (hM : sumT μ (cutW R tabs (.put k) p) ≤ B) (bt bf : Nat) (hC : ∀ W, Gr w W → Calls Tryz.prog 72 #[.int .i64 k, .pointer (some ⟨bt, 0, none⟩), .pointer (some ⟨bf, 0, none⟩)] W (RetRows W (tabs.getD k []))) :
  Calls Tryz.prog 74 #[F.val, .agg #[.int .i64 (stp (.put k)).1, .int .i64 (stp (.put k)).2.1, .int .i64 (stp (.put k)).2.2], .slice a n c, .func (.func 72) #[] #[.pointer (some ⟨bt, 0, none⟩), .pointer (some ⟨bf, 0, none⟩)]] w (RetDo w (restW (.put k) p ++ [gath R (cutW R tabs (.put k) p)]) (okT R (gath R (cutW R tabs (.put k) p)))) := by
 have hnp := hp.1
 have hnc := hp.2.1
 have hnone := hp.2.2.2.1
 have HP := Lh hp
 have HF := Lh hF
 have HL := Lh (And.intro hL (And.intro hG hM))
 obtain ⟨w1, hw1⟩ : ∃ w1, w.alloc (.cells #[.func (.func F.p) #[] F.pb, .func (.func F.t) #[] F.tb, .func (.func F.s) #[] F.sb, .func (.func F.f) #[] F.fb] 63) = w1 := ⟨_, rfl⟩
 have g1 : Gr w w1 := hw1 ▸ (Gr.refl w).alloc _
 obtain ⟨f0, f1, f2, f3⟩ := BoxF.new hw1
 obtain ⟨w2, hw2⟩ : ∃ w2, w1.alloc (.cells #[.int .i64 (stp (.put k)).1, .int .i64 (stp (.put k)).2.1, .int .i64 (stp (.put k)).2.2] 103) = w2 := ⟨_, rfl⟩
 have g2 : Gr w1 w2 := hw2 ▸ (Gr.refl w1).alloc _
 have z0 : w2.cell? ⟨w1.heap.size, 0, none⟩ = some (.int .i64 (stp (.put k)).1) := by rw [← hw2]; simp
 have z1 : w2.cell? ⟨w1.heap.size, 1, none⟩ = some (.int .i64 (stp (.put k)).2.1) := by rw [← hw2]; simp
 have z2 : w2.cell? ⟨w1.heap.size, 2, none⟩ = some (.int .i64 (stp (.put k)).2.2) := by rw [← hw2]; simp
 replace f0 := g2.cell f0
 replace f1 := g2.cell f1
 replace f2 := g2.cell f2
 replace f3 := g2.cell f3
 have HG2 := Lh (g1.trans g2)
 unfold RF.val
 simp only [stp] at z0 z1 z2 hw2 ⊢
 clear hp hF hL hG hM g1 g2
 have CF := Lh (hC w2 HG2.out)
 clear hC
 go_enter Tryz.func74, Tryz.ntmps74
 generalize hbx : w.heap.size = bx at *
 generalize hbw : w1.heap.size = bw at *
 have hkn : p.length ≤ n := by omega
 go_wp2_with fail
 refine CF.out.mono ?_
 rintro e w3 ⟨v, raw, rfl, hO, hD⟩
 have HO := Lh hO
 have HD := Lh hD
 replace f0 := hO.2.cell f0
 replace f1 := hO.2.cell f1
 replace f2 := hO.2.cell f2
 replace f3 := hO.2.cell f3
 obtain ⟨va, vc, rfl, _⟩ := hO.rd
 clear z0 z1 z2 CF hO hD hw1 hw2
 have HKK := Lh (show restW (.put k) p = p.take p.length from rfl)
 generalize hkk : p.length = kk at *
 have hkp : kk ≤ p.length := by omega
 have CG := Lh (show Calls Tryz.prog 104 #[.agg #[.func (.func F.p) #[] F.pb, .func (.func F.t) #[] F.tb, .func (.func F.s) #[] F.sb, .func (.func F.f) #[] F.fb], .slice va raw.length vc] w3 _ from gathered_any F R G μ B w2 w3 _ raw _ HO.out HD.out HL.out.1 (HF.out.gr HG2.out) HL.out.2.1 HL.out.2.2)
 generalize raw.length = rl at *
 obtain ⟨i0, hi, hz0, hz1, hz2⟩ := info_tab
 obtain ⟨olds, ho1, ho2, ho3⟩ := HP.out.olds (k := kk) (by omega)
 have HI := Lh (And.intro hi (And.intro hz0 (And.intro hz1 (And.intro hz2 (And.intro ho1 (And.intro ho2 ho3))))))
 have HK := Lh (And.intro hkn (And.intro hn (And.intro hnc (And.intro hnone hkp))))
 have s1 : (kk : Int) ≤ (c : Int) := by omega
 clear hi hz0 hz1 hz2 ho1 ho2 ho3 hn hnc hnone hkn hkp
 go_wp2_with (first
  | (go_at_call 104; (with_reducible refine CG.out.mono ?_); rintro e w9 ⟨aT, nT, cT, rfl, hT, gT⟩; have HT := Lh hT; have GT := Lh gT; clear hT gT CG)
  | (at_builtin; refine wpList_append_grows _ rfl _ _ 100 rfl 65 i0 _ 1 24 Tryz.underlying100 HI.out.1 HI.out.2.1 HI.out.2.2.1 HI.out.2.2.2.1 rfl (by decide) _ _ _ olds rfl (fun e => by have h1 := HK.out; have h2 := h1.2.2.2.1 e; omega) (by rw [Nat.mul_one]; exact HI.out.2.2.2.2.1) (fun b hb j u hu => ((HG2.out.trans GT.out).trans ((Gr.refl w9).alloc _)).cell (HI.out.2.2.2.2.2.1 b hb j u hu)) _ _ _ [.slice aT nT cT] rfl rfl (fun j u hu => one_cell w9 hu) (by simp [Value.oneCell']) (by omega) (by unfold maxLen; have := HK.out; omega) (by have := HK.out; omega) ?_; intro v3 w4 hown3 hg3; have HH3 := Lh hown3; have G3 := Lh ((HG2.out.trans GT.out).trans (((Gr.refl w9).alloc (.cells #[.slice aT nT cT] 65)).grown hg3 (fun k hk => by cases hk))); have GL := Lh (((Gr.refl w9).alloc (.cells #[.slice aT nT cT] 65)).grown hg3 (fun k hk => by cases hk)); clear hown3 hg3)
  | go_in)
 obtain ⟨a', c', rfl, hpl⟩ := RdPl.push (p := p) (k := kk) HI.out.2.2.2.2.1 HI.out.2.2.2.2.2.2 HK.out.2.2.2.2 HH3.out G3.out ((HT.out.gr GL.out).own)
 rw [← HKK.out] at hpl
 refine bodyPost_ret (v := .tuple #[.slice a' (kk + 1) c', .bool _]) (by simp [results, Tryz.results74, go_sem]; rfl) rfl ?_
 exact ⟨_, _, _, rfl, hpl, G3.out⟩
theorem does_orr (F : RF) (R : Rg Int) (G : Int → Prop) (μ : Int → Nat) (B : Nat) (w : World) (a : Option Addr) (n c : Nat) (tabs p : List (Tbl Int)) (fv : Value) (hp : RdPl w w a n c p) (hn : n ≤ 1000) (hF : RingOk F R G μ B w) (hL : (cutW R tabs .orr p).length ≤ 1000) (hG : ∀ x ∈ cutW R tabs .orr p, G x.2) (hM : sumT μ (cutW R tabs .orr p) ≤ B) (hk : 2 ≤ p.length) :
  Calls Tryz.prog 74 #[F.val, .agg #[.int .i64 (stp .orr).1, .int .i64 (stp .orr).2.1, .int .i64 (stp .orr).2.2], .slice a n c, fv] w (RetDo w (restW .orr p ++ [gath R (cutW R tabs .orr p)]) (okT R (gath R (cutW R tabs .orr p)))) := by
 have hnp := hp.1
 have hnc := hp.2.1
 have hnone := hp.2.2.2.1
 have HP := Lh hp
 have HF := Lh hF
 have HL := Lh (And.intro hL (And.intro hG hM))
 obtain ⟨w1, hw1⟩ : ∃ w1, w.alloc (.cells #[.func (.func F.p) #[] F.pb, .func (.func F.t) #[] F.tb, .func (.func F.s) #[] F.sb, .func (.func F.f) #[] F.fb] 63) = w1 := ⟨_, rfl⟩
 have g1 : Gr w w1 := hw1 ▸ (Gr.refl w).alloc _
 obtain ⟨f0, f1, f2, f3⟩ := BoxF.new hw1
 obtain ⟨w2, hw2⟩ : ∃ w2, w1.alloc (.cells #[.int .i64 (stp .orr).1, .int .i64 (stp .orr).2.1, .int .i64 (stp .orr).2.2] 103) = w2 := ⟨_, rfl⟩
 have g2 : Gr w1 w2 := hw2 ▸ (Gr.refl w1).alloc _
 have z0 : w2.cell? ⟨w1.heap.size, 0, none⟩ = some (.int .i64 (stp .orr).1) := by rw [← hw2]; simp
 have z1 : w2.cell? ⟨w1.heap.size, 1, none⟩ = some (.int .i64 (stp .orr).2.1) := by rw [← hw2]; simp
 have z2 : w2.cell? ⟨w1.heap.size, 2, none⟩ = some (.int .i64 (stp .orr).2.2) := by rw [← hw2]; simp
 replace f0 := g2.cell f0
 replace f1 := g2.cell f1
 replace f2 := g2.cell f2
 replace f3 := g2.cell f3
 have HG2 := Lh (g1.trans g2)
 unfold RF.val
 simp only [stp] at z0 z1 z2 hw2 ⊢
 clear hp hF hL hG hM g1 g2
 generalize hbx : w.heap.size = bx at *
 generalize hbw : w1.heap.size = bw at *
 obtain ⟨kk, hkk⟩ : ∃ kk, n = kk + 2 := ⟨n - 2, by omega⟩
 have hp2 : p.length = kk + 2 := by omega
 obtain ⟨b, o, a1, n1, cc1, rfl, q1, t1⟩ := HP.out.at (k := kk) (by omega)
 obtain ⟨b', o', a2, n2, cc2, eb, q2, t2⟩ := HP.out.at (k := kk + 1) (by omega)
 simp only [Option.some.injEq, Addr.mk.injEq, and_true] at eb
 obtain ⟨rfl, rfl⟩ := eb
 replace q1 := HG2.out.cell q1
 replace q2 := HG2.out.cell q2
 have HT1 := Lh (t1.gr HG2.out).own
 have HT2 := Lh (t2.gr HG2.out).own
 have i1 : (kk : Int) < (n : Int) := by omega
 have i2 : ((kk + 1 : Nat) : Int) < (n : Int) := by omega
 have i3 : (kk : Int) + 1 < (n : Int) := by omega
 have i4 : (0 : Int) ≤ (kk : Int) + 1 := by omega
 have i5 : ((kk : Int) + 1).toNat = kk + 1 := by omega
 have HKK := Lh (show restW .orr p = p.take kk by show p.take (p.length - 2) = _; rw [hp2, Nat.add_sub_cancel])
 have HP2 := Lh (show p.getD (p.length - 2) [] = p.getD kk [] ∧ p.getD (p.length - 1) [] = p.getD (kk + 1) [] by rw [hp2]; exact ⟨rfl, rfl⟩)
 have hkn : kk ≤ n := by omega
 have hkp : kk ≤ p.length := by omega
 have HN2 := Lh (show n1 = (p.getD kk []).length ∧ n2 = (p.getD (kk + 1) []).length from ⟨t1.len, t2.len⟩)
 obtain ⟨e1, e2, e1', e2'⟩ := wraps hkk hn
 clear t1 t2 hnp hp2 hkk
 go_enter Tryz.func74, Tryz.ntmps74
 go_wp2_with fail
 refine Hg (fun w' => Gr w2 w') 12 ?_
 have hS : Gr w2 w2.drew := (Gr.refl w2).drew
 refine H5 0 1 2 3 4 (c2 q1 q2) hS ?_; refine H4 5 6 7 8 (c2 q1 q2) hS ?_
 refine Hr 9 rfl (fun K hK => ?_)
 go_simp
 obtain ⟨wY, hwY⟩ : ∃ wY, (w2.alloc (.cells #[.slice a1 n1 cc1, .slice a2 n2 cc2] 65)).drew = wY := ⟨_, rfl⟩
 have hS : Gr w2 wY := hwY ▸ ((Gr.refl w2).alloc _).drew
 have hcc : wY.cell? ⟨w2.heap.size, 0, none⟩ = some (.slice a1 n1 cc1) ∧ wY.cell? ⟨w2.heap.size, 1, none⟩ = some (.slice a2 n2 cc2) := by rw [← hwY]; exact boxr w2 _ _ 65
 rw [hwY]
 clear hwY
 have CC := Lh (concat_any w2.heap.size n1 cc1 n2 cc2 a1 a2 (p.getD kk []) (p.getD (kk + 1) []) wY (by have h1 := HL.out.1; have h2 := HN2.out; have h3 := HP2.out; simp only [cutW, rowsW, List.length_append] at h1; rw [h3.1, h3.2] at h1; omega) (by have h1 := HL.out.1; have h2 := HN2.out; have h3 := HP2.out; simp only [cutW, rowsW, List.length_append] at h1; rw [h3.1, h3.2] at h1; omega) (HT1.out.gr hS).own (HT2.out.gr hS).own hcc.1 hcc.2)
 refine hK.out _ _ hS ?_
 clear hK K hcc
 refine Hr 10 rfl (fun K hK => ?_)
 go_simp
 refine ⟨trivial, ?_⟩
 refine (callsIn_wide.2 (CC.out)).mono ?_
 rintro e w3 ⟨v, raw, rfl, hO, hD⟩
 have HO := Lh hO
 have HD := Lh (show Dat wY w3 raw (cutW R tabs .orr p) by show Dat wY w3 raw (p.getD (p.length - 2) [] ++ p.getD (p.length - 1) []); rw [HP2.out.1, HP2.out.2]; exact hD)
 have HGY := Lh (HG2.out.trans hS)
 have hS : Gr w2 w3 := hS.trans hO.2
 obtain ⟨va, vc, rfl, _⟩ := hO.rd
 refine hK.out _ _ hS ?_
 clear hK K hO hD CC
 refine H1 11 tv hS ?_
 refine Hd ?_
 replace f0 := hS.cell f0
 replace f1 := hS.cell f1
 replace f2 := hS.cell f2
 replace f3 := hS.cell f3
 clear i3 i4 i5 z0 z1 z2 q1 q2 i1 i2 e1 e2 e1' e2' hS HT1 HT2
 have CG := Lh (show Calls Tryz.prog 104 #[.agg #[.func (.func F.p) #[] F.pb, .func (.func F.t) #[] F.tb, .func (.func F.s) #[] F.sb, .func (.func F.f) #[] F.fb], .slice va raw.length vc] w3 _ from gathered_any F R G μ B wY w3 _ raw _ HO.out HD.out HL.out.1 (HF.out.gr HGY.out) HL.out.2.1 HL.out.2.2)
 generalize raw.length = rl at *
 obtain ⟨i0, hi, hz0, hz1, hz2⟩ := info_tab
 obtain ⟨olds, ho1, ho2, ho3⟩ := HP.out.olds (k := kk) (by omega)
 have HI := Lh (And.intro hi (And.intro hz0 (And.intro hz1 (And.intro hz2 (And.intro ho1 (And.intro ho2 ho3))))))
 have HK := Lh (And.intro hkn (And.intro hn (And.intro hnc (And.intro hnone hkp))))
 have s1 : (kk : Int) ≤ (c : Int) := by omega
 clear hi hz0 hz1 hz2 ho1 ho2 ho3 hn hnc hnone hkn hkp
 go_wp2_with (first
  | (go_at_call 104; (with_reducible refine CG.out.mono ?_); rintro e w9 ⟨aT, nT, cT, rfl, hT, gT⟩; have HT := Lh hT; have GT := Lh gT; clear hT gT CG)
  | (at_builtin; refine wpList_append_grows _ rfl _ _ 100 rfl 65 i0 _ 1 24 Tryz.underlying100 HI.out.1 HI.out.2.1 HI.out.2.2.1 HI.out.2.2.2.1 rfl (by decide) _ _ _ olds rfl (fun e => by have h1 := HK.out; have h2 := h1.2.2.2.1 e; omega) (by rw [Nat.mul_one]; exact HI.out.2.2.2.2.1) (fun b hb j u hu => ((HGY.out.trans GT.out).trans ((Gr.refl w9).alloc _)).cell (HI.out.2.2.2.2.2.1 b hb j u hu)) _ _ _ [.slice aT nT cT] rfl rfl (fun j u hu => one_cell w9 hu) (by simp [Value.oneCell']) (by omega) (by unfold maxLen; have := HK.out; omega) (by have := HK.out; omega) ?_; intro v3 w4 hown3 hg3; have HH3 := Lh hown3; have G3 := Lh ((HGY.out.trans GT.out).trans (((Gr.refl w9).alloc (.cells #[.slice aT nT cT] 65)).grown hg3 (fun k hk => by cases hk))); have GL := Lh (((Gr.refl w9).alloc (.cells #[.slice aT nT cT] 65)).grown hg3 (fun k hk => by cases hk)); clear hown3 hg3)
  | go_in)
 obtain ⟨a', c', rfl, hpl⟩ := RdPl.push (p := p) (k := kk) HI.out.2.2.2.2.1 HI.out.2.2.2.2.2.2 HK.out.2.2.2.2 HH3.out G3.out ((HT.out.gr GL.out).own)
 rw [← HKK.out] at hpl
 refine bodyPost_ret (v := .tuple #[.slice a' (kk + 1) c', .bool _]) (by simp [results, Tryz.results74, go_sem]; rfl) rfl ?_
 exact ⟨_, _, _, rfl, hpl, G3.out⟩
theorem does_byy (F : RF) (R : Rg Int) (G : Int → Prop) (μ : Int → Nat) (B : Nat) (w : World) (a : Option Addr) (n c : Nat) (tabs p : List (Tbl Int)) (fv : Value) (hp : RdPl w w a n c p) (hn : n ≤ 1000) (hF : RingOk F R G μ B w) (hL : (cutW R tabs .byy p).length ≤ 1000) (hG : ∀ x ∈ cutW R tabs .byy p, G x.2) (hM : sumT μ (cutW R tabs .byy p) ≤ B) (hk : 2 ≤ p.length) (hJ : (p.getD (p.length - 2) []).length ≤ 1000 ∧ (p.getD (p.length - 1) []).length ≤ 1000 ∧ JoinOk R G (p.getD (p.length - 2) []) ∧ JoinOk R G (p.getD (p.length - 1) [])) :
  Calls Tryz.prog 74 #[F.val, .agg #[.int .i64 (stp .byy).1, .int .i64 (stp .byy).2.1, .int .i64 (stp .byy).2.2], .slice a n c, fv] w (RetDo w (restW .byy p ++ [gath R (cutW R tabs .byy p)]) (okT R (gath R (cutW R tabs .byy p)))) := by
 have hnp := hp.1
 have hnc := hp.2.1
 have hnone := hp.2.2.2.1
 have HP := Lh hp
 have HF := Lh hF
 have HL := Lh (And.intro hL (And.intro hG hM))
 obtain ⟨w1, hw1⟩ : ∃ w1, w.alloc (.cells #[.func (.func F.p) #[] F.pb, .func (.func F.t) #[] F.tb, .func (.func F.s) #[] F.sb, .func (.func F.f) #[] F.fb] 63) = w1 := ⟨_, rfl⟩
 have g1 : Gr w w1 := hw1 ▸ (Gr.refl w).alloc _
 obtain ⟨f0, f1, f2, f3⟩ := BoxF.new hw1
 obtain ⟨w2, hw2⟩ : ∃ w2, w1.alloc (.cells #[.int .i64 (stp .byy).1, .int .i64 (stp .byy).2.1, .int .i64 (stp .byy).2.2] 103) = w2 := ⟨_, rfl⟩
 have g2 : Gr w1 w2 := hw2 ▸ (Gr.refl w1).alloc _
 have z0 : w2.cell? ⟨w1.heap.size, 0, none⟩ = some (.int .i64 (stp .byy).1) := by rw [← hw2]; simp
 have z1 : w2.cell? ⟨w1.heap.size, 1, none⟩ = some (.int .i64 (stp .byy).2.1) := by rw [← hw2]; simp
 have z2 : w2.cell? ⟨w1.heap.size, 2, none⟩ = some (.int .i64 (stp .byy).2.2) := by rw [← hw2]; simp
 replace f0 := g2.cell f0
 replace f1 := g2.cell f1
 replace f2 := g2.cell f2
 replace f3 := g2.cell f3
 have HG2 := Lh (g1.trans g2)
 unfold RF.val
 simp only [stp] at z0 z1 z2 hw2 ⊢
 clear hp hF hL hG hM g1 g2
 have HJ := Lh hJ
 clear hJ
 generalize hbx : w.heap.size = bx at *
 generalize hbw : w1.heap.size = bw at *
 obtain ⟨kk, hkk⟩ : ∃ kk, n = kk + 2 := ⟨n - 2, by omega⟩
 have hp2 : p.length = kk + 2 := by omega
 obtain ⟨b, o, a1, n1, cc1, rfl, q1, t1⟩ := HP.out.at (k := kk) (by omega)
 obtain ⟨b', o', a2, n2, cc2, eb, q2, t2⟩ := HP.out.at (k := kk + 1) (by omega)
 simp only [Option.some.injEq, Addr.mk.injEq, and_true] at eb
 obtain ⟨rfl, rfl⟩ := eb
 replace q1 := HG2.out.cell q1
 replace q2 := HG2.out.cell q2
 have HT1 := Lh (t1.gr HG2.out).own
 have HT2 := Lh (t2.gr HG2.out).own
 have i1 : (kk : Int) < (n : Int) := by omega
 have i2 : ((kk + 1 : Nat) : Int) < (n : Int) := by omega
 have i3 : (kk : Int) + 1 < (n : Int) := by omega
 have i4 : (0 : Int) ≤ (kk : Int) + 1 := by omega
 have i5 : ((kk : Int) + 1).toNat = kk + 1 := by omega
 have HKK := Lh (show restW .byy p = p.take kk by show p.take (p.length - 2) = _; rw [hp2, Nat.add_sub_cancel])
 have HP2 := Lh (show p.getD (p.length - 2) [] = p.getD kk [] ∧ p.getD (p.length - 1) [] = p.getD (kk + 1) [] by rw [hp2]; exact ⟨rfl, rfl⟩)
 have hkn : kk ≤ n := by omega
 have hkp : kk ≤ p.length := by omega
 have HN2 := Lh (show n1 = (p.getD kk []).length ∧ n2 = (p.getD (kk + 1) []).length from ⟨t1.len, t2.len⟩)
 obtain ⟨e1, e2, e1', e2'⟩ := wraps hkk hn
 clear t1 t2 hnp hp2 hkk
 go_enter Tryz.func74, Tryz.ntmps74
 go_wp2_with fail
 have CY := Lh (fun W (k : Gr w2 W) => (show Calls Tryz.prog 101 #[.agg #[.func (.func F.p) #[] F.pb, .func (.func F.t) #[] F.tb, .func (.func F.s) #[] F.sb, .func (.func F.f) #[] F.fb], .slice a1 n1 cc1, .slice a2 n2 cc2] W _ from by_any F R G μ B W a1 a2 n1 cc1 n2 cc2 (p.getD kk []) (p.getD (kk + 1) []) (by have h2 := HN2.out; have h3 := HJ.out; rw [← HP2.out.1] at h2; omega) (by have h2 := HN2.out; have h3 := HJ.out; rw [← HP2.out.2] at h2; omega) (HT1.out.gr k).own (HT2.out.gr k).own (HF.out.gr (HG2.out.trans k)) (HP2.out.1 ▸ HJ.out.2.2.1) (HP2.out.2 ▸ HJ.out.2.2.2)))
 refine Hg (fun w' => Gr w2 w') 12 ?_
 have hS : Gr w2 w2.drew := (Gr.refl w2).drew
 refine H5 0 1 2 3 4 (c6 q1 q2 f0 f1 f2 f3) hS ?_; refine H5 5 6 7 8 9 (c6 q1 q2 f0 f1 f2 f3) hS ?_
 obtain ⟨wY, hwY⟩ : ∃ wY, w2.drew = wY := ⟨_, rfl⟩
 rw [hwY] at hS ⊢
 clear hwY
 have HGY := Lh (HG2.out.trans hS)
 refine Hr 10 rfl (fun K hK => ?_)
 go_simp
 refine ⟨trivial, ?_⟩
 refine (callsIn_wide.2 (CY.out _ hS)).mono ?_
 rintro e w3 ⟨v, raw, rfl, hO, hD⟩
 have HO := Lh hO
 have HD := Lh (show Dat wY w3 raw (cutW R tabs .byy p) by show Dat wY w3 raw ((joinL R.mul (p.getD (p.length - 2) []) (p.getD (p.length - 1) [])).take 61); rw [HP2.out.1, HP2.out.2]; exact hD)
 have hS : Gr w2 w3 := hS.trans hO.2
 obtain ⟨va, vc, rfl, _⟩ := hO.rd
 refine hK.out _ _ hS ?_
 clear hK K hO hD CY
 refine H1 11 tv hS ?_
 refine Hd ?_
 replace f0 := hS.cell f0
 replace f1 := hS.cell f1
 replace f2 := hS.cell f2
 replace f3 := hS.cell f3
 clear i3 i4 i5 z0 z1 z2 q1 q2 i1 i2 e1 e2 e1' e2' hS HT1 HT2
 have CG := Lh (show Calls Tryz.prog 104 #[.agg #[.func (.func F.p) #[] F.pb, .func (.func F.t) #[] F.tb, .func (.func F.s) #[] F.sb, .func (.func F.f) #[] F.fb], .slice va raw.length vc] w3 _ from gathered_any F R G μ B wY w3 _ raw _ HO.out HD.out HL.out.1 (HF.out.gr HGY.out) HL.out.2.1 HL.out.2.2)
 generalize raw.length = rl at *
 obtain ⟨i0, hi, hz0, hz1, hz2⟩ := info_tab
 obtain ⟨olds, ho1, ho2, ho3⟩ := HP.out.olds (k := kk) (by omega)
 have HI := Lh (And.intro hi (And.intro hz0 (And.intro hz1 (And.intro hz2 (And.intro ho1 (And.intro ho2 ho3))))))
 have HK := Lh (And.intro hkn (And.intro hn (And.intro hnc (And.intro hnone hkp))))
 have s1 : (kk : Int) ≤ (c : Int) := by omega
 clear hi hz0 hz1 hz2 ho1 ho2 ho3 hn hnc hnone hkn hkp
 go_wp2_with (first
  | (go_at_call 104; (with_reducible refine CG.out.mono ?_); rintro e w9 ⟨aT, nT, cT, rfl, hT, gT⟩; have HT := Lh hT; have GT := Lh gT; clear hT gT CG)
  | (at_builtin; refine wpList_append_grows _ rfl _ _ 100 rfl 65 i0 _ 1 24 Tryz.underlying100 HI.out.1 HI.out.2.1 HI.out.2.2.1 HI.out.2.2.2.1 rfl (by decide) _ _ _ olds rfl (fun e => by have h1 := HK.out; have h2 := h1.2.2.2.1 e; omega) (by rw [Nat.mul_one]; exact HI.out.2.2.2.2.1) (fun b hb j u hu => ((HGY.out.trans GT.out).trans ((Gr.refl w9).alloc _)).cell (HI.out.2.2.2.2.2.1 b hb j u hu)) _ _ _ [.slice aT nT cT] rfl rfl (fun j u hu => one_cell w9 hu) (by simp [Value.oneCell']) (by omega) (by unfold maxLen; have := HK.out; omega) (by have := HK.out; omega) ?_; intro v3 w4 hown3 hg3; have HH3 := Lh hown3; have G3 := Lh ((HGY.out.trans GT.out).trans (((Gr.refl w9).alloc (.cells #[.slice aT nT cT] 65)).grown hg3 (fun k hk => by cases hk))); have GL := Lh (((Gr.refl w9).alloc (.cells #[.slice aT nT cT] 65)).grown hg3 (fun k hk => by cases hk)); clear hown3 hg3)
  | go_in)
 obtain ⟨a', c', rfl, hpl⟩ := RdPl.push (p := p) (k := kk) HI.out.2.2.2.2.1 HI.out.2.2.2.2.2.2 HK.out.2.2.2.2 HH3.out G3.out ((HT.out.gr GL.out).own)
 rw [← HKK.out] at hpl
 refine bodyPost_ret (v := .tuple #[.slice a' (kk + 1) c', .bool _]) (by simp [results, Tryz.results74, go_sem]; rfl) rfl ?_
 exact ⟨_, _, _, rfl, hpl, G3.out⟩
def fK (s : Wd) (T : Tbl Int) : Tbl Int := (T.filter fun x => keepsW s x.1).map fun x => (colsW s x.1, x.2)
theorem fK_take {s : Wd} {T : Tbl Int} {i : Nat} {r : List Int × Int} (h : T[i]? = some r) : fK s (T.take (i + 1)) = fK s (T.take i) ++ (if keepsW s r.1 = true then [(colsW s r.1, r.2)] else []) := by
 unfold fK
 rw [List.take_add_one, h, List.filter_append, List.map_append]
 congr 1
 show List.map _ (List.filter _ [r]) = _
 rw [List.filter_cons]
 split <;> rfl
theorem fK_len (s : Wd) (T : Tbl Int) : (fK s T).length ≤ T.length := by
 unfold fK
 rw [List.length_map]
 exact List.length_filter_le _ _
theorem wrap1 {n kk : Nat} (hkk : n = kk + 1) (hn : n ≤ 1000) : IntKind.i64.wrap ((n : Int) - 1) = (kk : Int) ∧ wrap64 ((n : Int) - 1) = (kk : Int) := by
 refine ⟨?_, ?_⟩
 ·rw [IntWalk.i64_in _ (by omega)]; omega
 rw [IntWalk.wrap64_in _ (by omega)]; omega
theorem does_pick (F : RF) (R : Rg Int) (G : Int → Prop) (μ : Int → Nat) (B : Nat) (w : World) (a : Option Addr) (n c : Nat) (tabs p : List (Tbl Int)) (k : Nat) (m : Int) (fv : Value) (hp : RdPl w w a n c p) (hn : n ≤ 1000) (hF : RingOk F R G μ B w) (hL : (cutW R tabs (.pick k m) p).length ≤ 1000) (hG : ∀ x ∈ cutW R tabs (.pick k m) p, G x.2) (hM : sumT μ (cutW R tabs (.pick k m) p) ≤ B) (hk : 1 ≤ p.length) (hcol : ∀ x ∈ p.getD (p.length - 1) [], colOk (.pick k m) x.1.length) (hlen : (p.getD (p.length - 1) []).length ≤ 1000) :
  Calls Tryz.prog 74 #[F.val, .agg #[.int .i64 (stp (.pick k m)).1, .int .i64 (stp (.pick k m)).2.1, .int .i64 (stp (.pick k m)).2.2], .slice a n c, fv] w (RetDo w (restW (.pick k m) p ++ [gath R (cutW R tabs (.pick k m) p)]) (okT R (gath R (cutW R tabs (.pick k m) p)))) := by
 have hnp := hp.1
 have hnc := hp.2.1
 have hnone := hp.2.2.2.1
 have HP := Lh hp
 have HF := Lh hF
 have HL := Lh (And.intro hL (And.intro hG hM))
 obtain ⟨w1, hw1⟩ : ∃ w1, w.alloc (.cells #[.func (.func F.p) #[] F.pb, .func (.func F.t) #[] F.tb, .func (.func F.s) #[] F.sb, .func (.func F.f) #[] F.fb] 63) = w1 := ⟨_, rfl⟩
 have g1 : Gr w w1 := hw1 ▸ (Gr.refl w).alloc _
 obtain ⟨f0, f1, f2, f3⟩ := BoxF.new hw1
 obtain ⟨w2, hw2⟩ : ∃ w2, w1.alloc (.cells #[.int .i64 (stp (.pick k m)).1, .int .i64 (stp (.pick k m)).2.1, .int .i64 (stp (.pick k m)).2.2] 103) = w2 := ⟨_, rfl⟩
 have g2 : Gr w1 w2 := hw2 ▸ (Gr.refl w1).alloc _
 have z0 : w2.cell? ⟨w1.heap.size, 0, none⟩ = some (.int .i64 (stp (.pick k m)).1) := by rw [← hw2]; simp
 have z1 : w2.cell? ⟨w1.heap.size, 1, none⟩ = some (.int .i64 (stp (.pick k m)).2.1) := by rw [← hw2]; simp
 have z2 : w2.cell? ⟨w1.heap.size, 2, none⟩ = some (.int .i64 (stp (.pick k m)).2.2) := by rw [← hw2]; simp
 replace f0 := g2.cell f0
 replace f1 := g2.cell f1
 replace f2 := g2.cell f2
 replace f3 := g2.cell f3
 have HG2 := Lh (g1.trans g2)
 unfold RF.val
 simp only [stp] at z0 z1 z2 hw2 ⊢
 clear hp hF hL hG hM g1 g2
 generalize hbx : w.heap.size = bx at *
 generalize hbw : w1.heap.size = bw at *
 obtain ⟨kk, hkk⟩ : ∃ kk, n = kk + 1 := ⟨n - 1, by omega⟩
 have hp2 : p.length = kk + 1 := by omega
 obtain ⟨b, o, a1, n1, cc1, rfl, q1, t1⟩ := HP.out.at (k := kk) (by omega)
 replace q1 := HG2.out.cell q1
 have ht1 := (t1.gr HG2.out).own
 obtain ⟨X, hX, dX⟩ := ht1
 have HX := Lh hX
 have HDX := Lh dX
 have i1 : (kk : Int) < (n : Int) := by omega
 have HKK := Lh (show restW (.pick k m) p = p.take kk by show p.take (p.length - 1) = _; rw [hp2, Nat.add_sub_cancel])
 have HP2 := Lh (show p.getD (p.length - 1) [] = p.getD kk [] by rw [hp2]; rfl)
 have hkn : kk ≤ n := by omega
 have hkp : kk ≤ p.length := by omega
 have HC := Lh (show (∀ x ∈ p.getD kk [], colOk (.pick k m) x.1.length) ∧ (p.getD kk []).length ≤ 1000 by rw [← HP2.out]; exact ⟨hcol, hlen⟩)
 have HCut := Lh (show cutW R tabs (.pick k m) p = fK (.pick k m) (p.getD kk []) by rw [← HP2.out]; rfl)
 have HN2 := Lh (show n1 = (p.getD kk []).length ∧ n1 ≤ 1000 from ⟨t1.len, by rw [t1.len]; exact HC.out.2⟩)
 obtain ⟨e1, e1'⟩ := wrap1 hkk hn
 generalize hTT : p.getD kk [] = TT at *
 have HK0 := Lh (And.intro hkn (And.intro hn (And.intro hnc (And.intro hnone hkp))))
 clear t1 hnp hp2 hkk hX dX hcol hlen hk hTT hkn hn hnc hkp hnone
 go_enter Tryz.func74, Tryz.ntmps74
 go_wp2_with fail
 clear q1 i1 e1 e1' hw1 hw2
 go_loopw [10, 27] (fun vo si wr => ∃ (i : Nat) (rawO : List Rw), si = .int .i64 i ∧ Hid (i ≤ n1) ∧ Hid (OwnR w2 wr vo rawO) ∧ Hid (Dat w2 wr rawO (fK (.pick k m) (TT.take i)))) (fun _ si _ => n1 - (intOf si).toNat)
 case atStart => exact ⟨0, [], rfl, Lh (Nat.zero_le _), Lh (OwnR.nil w2), Lh (Dat.nil _ _)⟩
 case round =>
  obtain ⟨i, rawO, rfl, Hi, HO, HDO⟩ := hrel
  obtain ⟨ao, co, rfl, _⟩ := HO.out.rd
  by_cases hlt : i < n1
  ·have i1 : (i : Int) < (n1 : Int) := by omega
   obtain ⟨b', o', x, rfl, hx, d1, d2⟩ := (HX.out.gr HO.out.2).at hlt
   obtain ⟨r, hr, xr, xo, xp⟩ := (HDX.out.gr HO.out.2).at hx
   have HTk := Lh (fK_take (s := (.pick k m)) hr)
   have hmem := List.mem_of_getElem? hr
   obtain ⟨wA, hwA⟩ : ∃ wA, wr.alloc (.cells #[.slice x.a x.n x.c, .int .i64 x.y] 98) = wA := ⟨_, rfl⟩
   have gA : Gr wr wA := hwA ▸ (Gr.refl wr).alloc _
   obtain ⟨zx0, zx1⟩ := boxr' hwA rfl
   have HOA := Lh (HO.out.gr gA)
   have HDA := Lh (HDO.out.gr gA)
   have HXr := Lh (show Rd3 wA x.a x.n x.c r.1 ∧ Old w2 wA 3 x.n x.a ∧ Rep wA x.y r.2 from ⟨xr.gr gA, xo.gr gA, xp.gr gA⟩)
   have hcc := HC.out.1 r hmem
   have CK := Lh (show Calls Tryz.prog 102 #[.agg #[.int .i64 4, .int .i64 (k : Nat), .int .i64 m], .slice x.a x.n x.c] wA (RetB (keepsW (.pick k m) r.1) wA) from keeps_any (.pick k m) x.a x.n x.c r.1 wA (xr.gr gA) (by rw [xr.1]; exact hcc))
   have u0 := (HO.out.2.trans gA).cell z0
   have u1 := (HO.out.2.trans gA).cell z1
   have u2 := (HO.out.2.trans gA).cell z2
   have HMl := Lh (show rawO.length ≤ 1000 from by
    have h1 := HDO.out.1
    have h2 := HN2.out
    have h3 := fK_len (.pick k m) (TT.take i)
    rw [List.length_take] at h3; omega)
   have HLi := Lh hlt
   generalize hq : keepsW (.pick k m) r.1 = q at *
   have HQ := Lh hq
   clear hx hr xr xo xp gA hlt HO HDO hmem hcc hq
   obtain ⟨xa, xn, xc, xy⟩ := x
   simp only at d1 d2 hwA HXr zx0 zx1 CK
   generalize hmm : rawO.length = m' at *
   have HMm := Lh hmm
   clear hmm
   cases q with
   | false =>
    have e3 := step64 HLi.out HN2.out.2
    clear z0 z1 z2 f0 f1 f2 f3
    go_wp2_with fail
    refine CK.out.mono ?_
    rintro e wB ⟨rfl, gB⟩
    have HOB := Lh (HOA.out.gr gB)
    have HDB := Lh (HDA.out.gr gB)
    clear d1 d2 hwA gB CK u0 u1 u2 zx0 zx1 i1
    go_wp2_with fail
    go_roundw
    case rel => exact ⟨i + 1, _, by first | (rw [e3]) | rfl | simp, Lh (Nat.succ_le_of_lt HLi.out), HOB, Lh (by rw [HTk.out]; simpa using HDB.out)⟩
    case measure => first | (rw [e3]; exact fall HLi.out) | exact fall HLi.out
   | true =>
    have e3 := step64 HLi.out HN2.out.2
    clear z0 z1 z2 f0 f1 f2 f3
    go_wp2_with fail
    refine CK.out.mono ?_
    rintro e wB ⟨rfl, gB⟩
    have HOB := Lh (HOA.out.gr gB)
    have HDB := Lh (HDA.out.gr gB)
    have HXB := Lh (show Rd3 wB xa xn xc r.1 ∧ Old w2 wB 3 xn xa ∧ Rep wB xy r.2 from ⟨HXr.out.1.gr gB, HXr.out.2.1.gr gB, HXr.out.2.2.gr gB⟩)
    replace zx0 := gB.cell zx0
    replace zx1 := gB.cell zx1
    replace u0 := gB.cell u0
    clear d1 d2 hwA gB CK u1 u2 i1
    go_wp2_with (first
     | (at_builtin; refine wpList_app_row rfl _ _ 64 rfl Tryz.underlying64 _ rawO rfl (HOB.out.alloc _) _ ⟨xa, xn, xc, xy⟩ rfl (boxr' rfl rfl) (by have h1 := HMl.out; have h2 := HMm.out; clear e3; omega) ?_; intro v3 w4 hown3 hg3; have HO3 := Lh hown3; have HD3 := Lh (((HDB.out.gr ((Gr.refl wB).alloc _)).snoc (x := ⟨xa, xn, xc, xy⟩) (r := (r.1, r.2)) (HXB.out.1.gr ((Gr.refl wB).alloc _)) (HXB.out.2.1.gr ((Gr.refl wB).alloc _)) (HXB.out.2.2.gr ((Gr.refl wB).alloc _))).grown (v := .slice ao m' co) (HOB.out.alloc _) hg3); clear hown3 hg3)
     | go_in)
    go_roundw
    case rel => exact ⟨i + 1, _, by first | (rw [e3]) | rfl | simp, Lh (Nat.succ_le_of_lt HLi.out), HO3, Lh (by rw [HTk.out]; first | (rw [if_pos HQ.out]; exact HD3.out) | (rw [if_pos trivial]; exact HD3.out))⟩
    case measure => first | (rw [e3]; exact fall HLi.out) | exact fall HLi.out
  have hin : i = n1 := by have := Hi.out; omega
  subst hin
  have i1 : ¬ (i : Int) < (i : Int) := by omega
  have HD := Lh (show Dat w2 wr rawO (cutW R tabs (.pick k m) p) by
   have h0 := HDO.out
   rw [HCut.out]
   rwa [List.take_of_length_le (show TT.length ≤ i by have := HN2.out; omega)] at h0)
  replace f0 := HO.out.2.cell f0
  replace f1 := HO.out.2.cell f1
  replace f2 := HO.out.2.cell f2
  replace f3 := HO.out.2.cell f3
  obtain ⟨hkn, hn, hnc, hnone, hkp⟩ := HK0.out
  clear hlt HDO z0 z1 z2 HX HDX
  have CG := Lh (show Calls Tryz.prog 104 #[.agg #[.func (.func F.p) #[] F.pb, .func (.func F.t) #[] F.tb, .func (.func F.s) #[] F.sb, .func (.func F.f) #[] F.fb], .slice ao rawO.length co] wr _ from gathered_any F R G μ B w2 wr _ rawO _ HO.out HD.out HL.out.1 (HF.out.gr HG2.out) HL.out.2.1 HL.out.2.2)
  generalize rawO.length = rl at *
  obtain ⟨i0, hi, hz0, hz1, hz2⟩ := info_tab
  obtain ⟨olds, ho1, ho2, ho3⟩ := HP.out.olds (k := kk) (by omega)
  have HI := Lh (And.intro hi (And.intro hz0 (And.intro hz1 (And.intro hz2 (And.intro ho1 (And.intro ho2 ho3))))))
  have HK := Lh (And.intro hkn (And.intro hn (And.intro hnc (And.intro hnone hkp))))
  have s1 : (kk : Int) ≤ (c : Int) := by omega
  clear hi hz0 hz1 hz2 ho1 ho2 ho3 hn hnc hnone hkn hkp
  go_wp2_with (first
   | (go_at_call 104; (with_reducible refine CG.out.mono ?_); rintro e w9 ⟨aT, nT, cT, rfl, hT, gT⟩; have HT := Lh hT; have GT := Lh gT; clear hT gT CG)
   | (at_builtin; refine wpList_append_grows _ rfl _ _ 100 rfl 65 i0 _ 1 24 Tryz.underlying100 HI.out.1 HI.out.2.1 HI.out.2.2.1 HI.out.2.2.2.1 rfl (by decide) _ _ _ olds rfl (fun e => by have h1 := HK.out; have h2 := h1.2.2.2.1 e; omega) (by rw [Nat.mul_one]; exact HI.out.2.2.2.2.1) (fun b hb j u hu => ((HG2.out.trans GT.out).trans ((Gr.refl w9).alloc _)).cell (HI.out.2.2.2.2.2.1 b hb j u hu)) _ _ _ [.slice aT nT cT] rfl rfl (fun j u hu => one_cell w9 hu) (by simp [Value.oneCell']) (by omega) (by unfold maxLen; have := HK.out; omega) (by have := HK.out; omega) ?_; intro v3 w4 hown3 hg3; have HH3 := Lh hown3; have G3 := Lh ((HG2.out.trans GT.out).trans (((Gr.refl w9).alloc (.cells #[.slice aT nT cT] 65)).grown hg3 (fun k hk => by cases hk))); have GL := Lh (((Gr.refl w9).alloc (.cells #[.slice aT nT cT] 65)).grown hg3 (fun k hk => by cases hk)); clear hown3 hg3)
   | go_in)
  obtain ⟨a', c', rfl, hpl⟩ := RdPl.push (p := p) (k := kk) HI.out.2.2.2.2.1 HI.out.2.2.2.2.2.2 HK.out.2.2.2.2 HH3.out G3.out ((HT.out.gr GL.out).own)
  rw [← HKK.out] at hpl
  refine bodyPost_ret (v := .tuple #[.slice a' (kk + 1) c', .bool _]) (by simp [results, Tryz.results74, go_sem]; rfl) rfl ?_
  exact ⟨_, _, _, rfl, hpl, G3.out⟩
theorem does_same (F : RF) (R : Rg Int) (G : Int → Prop) (μ : Int → Nat) (B : Nat) (w : World) (a : Option Addr) (n c : Nat) (tabs p : List (Tbl Int)) (k m : Nat) (fv : Value) (hp : RdPl w w a n c p) (hn : n ≤ 1000) (hF : RingOk F R G μ B w) (hL : (cutW R tabs (.same k m) p).length ≤ 1000) (hG : ∀ x ∈ cutW R tabs (.same k m) p, G x.2) (hM : sumT μ (cutW R tabs (.same k m) p) ≤ B) (hk : 1 ≤ p.length) (hcol : ∀ x ∈ p.getD (p.length - 1) [], colOk (.same k m) x.1.length) (hlen : (p.getD (p.length - 1) []).length ≤ 1000) :
  Calls Tryz.prog 74 #[F.val, .agg #[.int .i64 (stp (.same k m)).1, .int .i64 (stp (.same k m)).2.1, .int .i64 (stp (.same k m)).2.2], .slice a n c, fv] w (RetDo w (restW (.same k m) p ++ [gath R (cutW R tabs (.same k m) p)]) (okT R (gath R (cutW R tabs (.same k m) p)))) := by
 have hnp := hp.1
 have hnc := hp.2.1
 have hnone := hp.2.2.2.1
 have HP := Lh hp
 have HF := Lh hF
 have HL := Lh (And.intro hL (And.intro hG hM))
 obtain ⟨w1, hw1⟩ : ∃ w1, w.alloc (.cells #[.func (.func F.p) #[] F.pb, .func (.func F.t) #[] F.tb, .func (.func F.s) #[] F.sb, .func (.func F.f) #[] F.fb] 63) = w1 := ⟨_, rfl⟩
 have g1 : Gr w w1 := hw1 ▸ (Gr.refl w).alloc _
 obtain ⟨f0, f1, f2, f3⟩ := BoxF.new hw1
 obtain ⟨w2, hw2⟩ : ∃ w2, w1.alloc (.cells #[.int .i64 (stp (.same k m)).1, .int .i64 (stp (.same k m)).2.1, .int .i64 (stp (.same k m)).2.2] 103) = w2 := ⟨_, rfl⟩
 have g2 : Gr w1 w2 := hw2 ▸ (Gr.refl w1).alloc _
 have z0 : w2.cell? ⟨w1.heap.size, 0, none⟩ = some (.int .i64 (stp (.same k m)).1) := by rw [← hw2]; simp
 have z1 : w2.cell? ⟨w1.heap.size, 1, none⟩ = some (.int .i64 (stp (.same k m)).2.1) := by rw [← hw2]; simp
 have z2 : w2.cell? ⟨w1.heap.size, 2, none⟩ = some (.int .i64 (stp (.same k m)).2.2) := by rw [← hw2]; simp
 replace f0 := g2.cell f0
 replace f1 := g2.cell f1
 replace f2 := g2.cell f2
 replace f3 := g2.cell f3
 have HG2 := Lh (g1.trans g2)
 unfold RF.val
 simp only [stp] at z0 z1 z2 hw2 ⊢
 clear hp hF hL hG hM g1 g2
 generalize hbx : w.heap.size = bx at *
 generalize hbw : w1.heap.size = bw at *
 obtain ⟨kk, hkk⟩ : ∃ kk, n = kk + 1 := ⟨n - 1, by omega⟩
 have hp2 : p.length = kk + 1 := by omega
 obtain ⟨b, o, a1, n1, cc1, rfl, q1, t1⟩ := HP.out.at (k := kk) (by omega)
 replace q1 := HG2.out.cell q1
 have ht1 := (t1.gr HG2.out).own
 obtain ⟨X, hX, dX⟩ := ht1
 have HX := Lh hX
 have HDX := Lh dX
 have i1 : (kk : Int) < (n : Int) := by omega
 have HKK := Lh (show restW (.same k m) p = p.take kk by show p.take (p.length - 1) = _; rw [hp2, Nat.add_sub_cancel])
 have HP2 := Lh (show p.getD (p.length - 1) [] = p.getD kk [] by rw [hp2]; rfl)
 have hkn : kk ≤ n := by omega
 have hkp : kk ≤ p.length := by omega
 have HC := Lh (show (∀ x ∈ p.getD kk [], colOk (.same k m) x.1.length) ∧ (p.getD kk []).length ≤ 1000 by rw [← HP2.out]; exact ⟨hcol, hlen⟩)
 have HCut := Lh (show cutW R tabs (.same k m) p = fK (.same k m) (p.getD kk []) by rw [← HP2.out]; rfl)
 have HN2 := Lh (show n1 = (p.getD kk []).length ∧ n1 ≤ 1000 from ⟨t1.len, by rw [t1.len]; exact HC.out.2⟩)
 obtain ⟨e1, e1'⟩ := wrap1 hkk hn
 generalize hTT : p.getD kk [] = TT at *
 have HK0 := Lh (And.intro hkn (And.intro hn (And.intro hnc (And.intro hnone hkp))))
 clear t1 hnp hp2 hkk hX dX hcol hlen hk hTT hkn hn hnc hkp hnone
 go_enter Tryz.func74, Tryz.ntmps74
 go_wp2_with fail
 clear q1 i1 e1 e1' hw1 hw2
 go_loopw [10, 27] (fun vo si wr => ∃ (i : Nat) (rawO : List Rw), si = .int .i64 i ∧ Hid (i ≤ n1) ∧ Hid (OwnR w2 wr vo rawO) ∧ Hid (Dat w2 wr rawO (fK (.same k m) (TT.take i)))) (fun _ si _ => n1 - (intOf si).toNat)
 case atStart => exact ⟨0, [], rfl, Lh (Nat.zero_le _), Lh (OwnR.nil w2), Lh (Dat.nil _ _)⟩
 case round =>
  obtain ⟨i, rawO, rfl, Hi, HO, HDO⟩ := hrel
  obtain ⟨ao, co, rfl, _⟩ := HO.out.rd
  by_cases hlt : i < n1
  ·have i1 : (i : Int) < (n1 : Int) := by omega
   obtain ⟨b', o', x, rfl, hx, d1, d2⟩ := (HX.out.gr HO.out.2).at hlt
   obtain ⟨r, hr, xr, xo, xp⟩ := (HDX.out.gr HO.out.2).at hx
   have HTk := Lh (fK_take (s := (.same k m)) hr)
   have hmem := List.mem_of_getElem? hr
   obtain ⟨wA, hwA⟩ : ∃ wA, wr.alloc (.cells #[.slice x.a x.n x.c, .int .i64 x.y] 98) = wA := ⟨_, rfl⟩
   have gA : Gr wr wA := hwA ▸ (Gr.refl wr).alloc _
   obtain ⟨zx0, zx1⟩ := boxr' hwA rfl
   have HOA := Lh (HO.out.gr gA)
   have HDA := Lh (HDO.out.gr gA)
   have HXr := Lh (show Rd3 wA x.a x.n x.c r.1 ∧ Old w2 wA 3 x.n x.a ∧ Rep wA x.y r.2 from ⟨xr.gr gA, xo.gr gA, xp.gr gA⟩)
   have hcc := HC.out.1 r hmem
   have CK := Lh (show Calls Tryz.prog 102 #[.agg #[.int .i64 5, .int .i64 (k : Nat), .int .i64 (m : Nat)], .slice x.a x.n x.c] wA (RetB (keepsW (.same k m) r.1) wA) from keeps_any (.same k m) x.a x.n x.c r.1 wA (xr.gr gA) (by rw [xr.1]; exact hcc))
   have u0 := (HO.out.2.trans gA).cell z0
   have u1 := (HO.out.2.trans gA).cell z1
   have u2 := (HO.out.2.trans gA).cell z2
   have HMl := Lh (show rawO.length ≤ 1000 from by
    have h1 := HDO.out.1
    have h2 := HN2.out
    have h3 := fK_len (.same k m) (TT.take i)
    rw [List.length_take] at h3; omega)
   have HLi := Lh hlt
   generalize hq : keepsW (.same k m) r.1 = q at *
   have HQ := Lh hq
   clear hx hr xr xo xp gA hlt HO HDO hmem hcc hq
   obtain ⟨xa, xn, xc, xy⟩ := x
   simp only at d1 d2 hwA HXr zx0 zx1 CK
   generalize hmm : rawO.length = m' at *
   have HMm := Lh hmm
   clear hmm
   cases q with
   | false =>
    have e3 := step64 HLi.out HN2.out.2
    clear z0 z1 z2 f0 f1 f2 f3
    go_wp2_with fail
    refine CK.out.mono ?_
    rintro e wB ⟨rfl, gB⟩
    have HOB := Lh (HOA.out.gr gB)
    have HDB := Lh (HDA.out.gr gB)
    clear d1 d2 hwA gB CK u0 u1 u2 zx0 zx1 i1
    go_wp2_with fail
    go_roundw
    case rel => exact ⟨i + 1, _, by first | (rw [e3]) | rfl | simp, Lh (Nat.succ_le_of_lt HLi.out), HOB, Lh (by rw [HTk.out]; simpa using HDB.out)⟩
    case measure => first | (rw [e3]; exact fall HLi.out) | exact fall HLi.out
   | true =>
    have e3 := step64 HLi.out HN2.out.2
    clear z0 z1 z2 f0 f1 f2 f3
    go_wp2_with fail
    refine CK.out.mono ?_
    rintro e wB ⟨rfl, gB⟩
    have HOB := Lh (HOA.out.gr gB)
    have HDB := Lh (HDA.out.gr gB)
    have HXB := Lh (show Rd3 wB xa xn xc r.1 ∧ Old w2 wB 3 xn xa ∧ Rep wB xy r.2 from ⟨HXr.out.1.gr gB, HXr.out.2.1.gr gB, HXr.out.2.2.gr gB⟩)
    replace zx0 := gB.cell zx0
    replace zx1 := gB.cell zx1
    replace u0 := gB.cell u0
    clear d1 d2 hwA gB CK u1 u2 i1
    go_wp2_with (first
     | (at_builtin; refine wpList_app_row rfl _ _ 64 rfl Tryz.underlying64 _ rawO rfl (HOB.out.alloc _) _ ⟨xa, xn, xc, xy⟩ rfl (boxr' rfl rfl) (by have h1 := HMl.out; have h2 := HMm.out; clear e3; omega) ?_; intro v3 w4 hown3 hg3; have HO3 := Lh hown3; have HD3 := Lh (((HDB.out.gr ((Gr.refl wB).alloc _)).snoc (x := ⟨xa, xn, xc, xy⟩) (r := (r.1, r.2)) (HXB.out.1.gr ((Gr.refl wB).alloc _)) (HXB.out.2.1.gr ((Gr.refl wB).alloc _)) (HXB.out.2.2.gr ((Gr.refl wB).alloc _))).grown (v := .slice ao m' co) (HOB.out.alloc _) hg3); clear hown3 hg3)
     | go_in)
    go_roundw
    case rel => exact ⟨i + 1, _, by first | (rw [e3]) | rfl | simp, Lh (Nat.succ_le_of_lt HLi.out), HO3, Lh (by rw [HTk.out]; first | (rw [if_pos HQ.out]; exact HD3.out) | (rw [if_pos trivial]; exact HD3.out))⟩
    case measure => first | (rw [e3]; exact fall HLi.out) | exact fall HLi.out
  have hin : i = n1 := by have := Hi.out; omega
  subst hin
  have i1 : ¬ (i : Int) < (i : Int) := by omega
  have HD := Lh (show Dat w2 wr rawO (cutW R tabs (.same k m) p) by
   have h0 := HDO.out
   rw [HCut.out]
   rwa [List.take_of_length_le (show TT.length ≤ i by have := HN2.out; omega)] at h0)
  replace f0 := HO.out.2.cell f0
  replace f1 := HO.out.2.cell f1
  replace f2 := HO.out.2.cell f2
  replace f3 := HO.out.2.cell f3
  obtain ⟨hkn, hn, hnc, hnone, hkp⟩ := HK0.out
  clear hlt HDO z0 z1 z2 HX HDX
  have CG := Lh (show Calls Tryz.prog 104 #[.agg #[.func (.func F.p) #[] F.pb, .func (.func F.t) #[] F.tb, .func (.func F.s) #[] F.sb, .func (.func F.f) #[] F.fb], .slice ao rawO.length co] wr _ from gathered_any F R G μ B w2 wr _ rawO _ HO.out HD.out HL.out.1 (HF.out.gr HG2.out) HL.out.2.1 HL.out.2.2)
  generalize rawO.length = rl at *
  obtain ⟨i0, hi, hz0, hz1, hz2⟩ := info_tab
  obtain ⟨olds, ho1, ho2, ho3⟩ := HP.out.olds (k := kk) (by omega)
  have HI := Lh (And.intro hi (And.intro hz0 (And.intro hz1 (And.intro hz2 (And.intro ho1 (And.intro ho2 ho3))))))
  have HK := Lh (And.intro hkn (And.intro hn (And.intro hnc (And.intro hnone hkp))))
  have s1 : (kk : Int) ≤ (c : Int) := by omega
  clear hi hz0 hz1 hz2 ho1 ho2 ho3 hn hnc hnone hkn hkp
  go_wp2_with (first
   | (go_at_call 104; (with_reducible refine CG.out.mono ?_); rintro e w9 ⟨aT, nT, cT, rfl, hT, gT⟩; have HT := Lh hT; have GT := Lh gT; clear hT gT CG)
   | (at_builtin; refine wpList_append_grows _ rfl _ _ 100 rfl 65 i0 _ 1 24 Tryz.underlying100 HI.out.1 HI.out.2.1 HI.out.2.2.1 HI.out.2.2.2.1 rfl (by decide) _ _ _ olds rfl (fun e => by have h1 := HK.out; have h2 := h1.2.2.2.1 e; omega) (by rw [Nat.mul_one]; exact HI.out.2.2.2.2.1) (fun b hb j u hu => ((HG2.out.trans GT.out).trans ((Gr.refl w9).alloc _)).cell (HI.out.2.2.2.2.2.1 b hb j u hu)) _ _ _ [.slice aT nT cT] rfl rfl (fun j u hu => one_cell w9 hu) (by simp [Value.oneCell']) (by omega) (by unfold maxLen; have := HK.out; omega) (by have := HK.out; omega) ?_; intro v3 w4 hown3 hg3; have HH3 := Lh hown3; have G3 := Lh ((HG2.out.trans GT.out).trans (((Gr.refl w9).alloc (.cells #[.slice aT nT cT] 65)).grown hg3 (fun k hk => by cases hk))); have GL := Lh (((Gr.refl w9).alloc (.cells #[.slice aT nT cT] 65)).grown hg3 (fun k hk => by cases hk)); clear hown3 hg3)
   | go_in)
  obtain ⟨a', c', rfl, hpl⟩ := RdPl.push (p := p) (k := kk) HI.out.2.2.2.2.1 HI.out.2.2.2.2.2.2 HK.out.2.2.2.2 HH3.out G3.out ((HT.out.gr GL.out).own)
  rw [← HKK.out] at hpl
  refine bodyPost_ret (v := .tuple #[.slice a' (kk + 1) c', .bool _]) (by simp [results, Tryz.results74, go_sem]; rfl) rfl ?_
  exact ⟨_, _, _, rfl, hpl, G3.out⟩
theorem wrap2 {k n : Nat} (h : k < n ∧ n ≤ 1000) : IntKind.i64.wrap ((k : Int) + 1) = ((k + 1 : Nat) : Int) ∧ wrap64 ((k : Int) + 1) = ((k + 1 : Nat) : Int) := by
 refine ⟨?_, ?_⟩
 ·rw [IntWalk.i64_in _ (by omega)]; omega
 rw [IntWalk.wrap64_in _ (by omega)]; omega
theorem does_drop (F : RF) (R : Rg Int) (G : Int → Prop) (μ : Int → Nat) (B : Nat) (w : World) (a : Option Addr) (n c : Nat) (tabs p : List (Tbl Int)) (k : Nat) (fv : Value) (hp : RdPl w w a n c p) (hn : n ≤ 1000) (hF : RingOk F R G μ B w) (hL : (cutW R tabs (.drop k) p).length ≤ 1000) (hG : ∀ x ∈ cutW R tabs (.drop k) p, G x.2) (hM : sumT μ (cutW R tabs (.drop k) p) ≤ B) (hk : 1 ≤ p.length) (hcol : ∀ x ∈ p.getD (p.length - 1) [], colOk (.drop k) x.1.length) (hlen : (p.getD (p.length - 1) []).length ≤ 1000) (hlen2 : ∀ x ∈ p.getD (p.length - 1) [], x.1.length ≤ 1000) :
  Calls Tryz.prog 74 #[F.val, .agg #[.int .i64 (stp (.drop k)).1, .int .i64 (stp (.drop k)).2.1, .int .i64 (stp (.drop k)).2.2], .slice a n c, fv] w (RetDo w (restW (.drop k) p ++ [gath R (cutW R tabs (.drop k) p)]) (okT R (gath R (cutW R tabs (.drop k) p)))) := by
 have hnp := hp.1
 have hnc := hp.2.1
 have hnone := hp.2.2.2.1
 have HP := Lh hp
 have HF := Lh hF
 have HL := Lh (And.intro hL (And.intro hG hM))
 obtain ⟨w1, hw1⟩ : ∃ w1, w.alloc (.cells #[.func (.func F.p) #[] F.pb, .func (.func F.t) #[] F.tb, .func (.func F.s) #[] F.sb, .func (.func F.f) #[] F.fb] 63) = w1 := ⟨_, rfl⟩
 have g1 : Gr w w1 := hw1 ▸ (Gr.refl w).alloc _
 obtain ⟨f0, f1, f2, f3⟩ := BoxF.new hw1
 obtain ⟨w2, hw2⟩ : ∃ w2, w1.alloc (.cells #[.int .i64 (stp (.drop k)).1, .int .i64 (stp (.drop k)).2.1, .int .i64 (stp (.drop k)).2.2] 103) = w2 := ⟨_, rfl⟩
 have g2 : Gr w1 w2 := hw2 ▸ (Gr.refl w1).alloc _
 have z0 : w2.cell? ⟨w1.heap.size, 0, none⟩ = some (.int .i64 (stp (.drop k)).1) := by rw [← hw2]; simp
 have z1 : w2.cell? ⟨w1.heap.size, 1, none⟩ = some (.int .i64 (stp (.drop k)).2.1) := by rw [← hw2]; simp
 have z2 : w2.cell? ⟨w1.heap.size, 2, none⟩ = some (.int .i64 (stp (.drop k)).2.2) := by rw [← hw2]; simp
 replace f0 := g2.cell f0
 replace f1 := g2.cell f1
 replace f2 := g2.cell f2
 replace f3 := g2.cell f3
 have HG2 := Lh (g1.trans g2)
 unfold RF.val
 simp only [stp] at z0 z1 z2 hw2 ⊢
 clear hp hF hL hG hM g1 g2
 generalize hbx : w.heap.size = bx at *
 generalize hbw : w1.heap.size = bw at *
 obtain ⟨kk, hkk⟩ : ∃ kk, n = kk + 1 := ⟨n - 1, by omega⟩
 have hp2 : p.length = kk + 1 := by omega
 obtain ⟨b, o, a1, n1, cc1, rfl, q1, t1⟩ := HP.out.at (k := kk) (by omega)
 replace q1 := HG2.out.cell q1
 have ht1 := (t1.gr HG2.out).own
 obtain ⟨X, hX, dX⟩ := ht1
 have HX := Lh hX
 have HDX := Lh dX
 have i1 : (kk : Int) < (n : Int) := by omega
 have HKK := Lh (show restW (.drop k) p = p.take kk by show p.take (p.length - 1) = _; rw [hp2, Nat.add_sub_cancel])
 have HP2 := Lh (show p.getD (p.length - 1) [] = p.getD kk [] by rw [hp2]; rfl)
 have hkn : kk ≤ n := by omega
 have hkp : kk ≤ p.length := by omega
 have HC := Lh (show (∀ x ∈ p.getD kk [], colOk (.drop k) x.1.length) ∧ (p.getD kk []).length ≤ 1000 by rw [← HP2.out]; exact ⟨hcol, hlen⟩)
 have HCut := Lh (show cutW R tabs (.drop k) p = fK (.drop k) (p.getD kk []) by rw [← HP2.out]; rfl)
 have HN2 := Lh (show n1 = (p.getD kk []).length ∧ n1 ≤ 1000 from ⟨t1.len, by rw [t1.len]; exact HC.out.2⟩)
 rw [HP2.out] at hlen2
 obtain ⟨e1, e1'⟩ := wrap1 hkk hn
 generalize hTT : p.getD kk [] = TT at *
 have HK0 := Lh (And.intro hkn (And.intro hn (And.intro hnc (And.intro hnone hkp))))
 clear t1 hnp hp2 hkk hX dX hcol hlen hk hTT hkn hn hnc hkp hnone
 go_enter Tryz.func74, Tryz.ntmps74
 go_wp2_with fail
 clear q1 i1 e1 e1' hw1 hw2
 go_loopw [10, 27] (fun vo si wr => ∃ (i : Nat) (rawO : List Rw), si = .int .i64 i ∧ Hid (i ≤ n1) ∧ Hid (OwnR w2 wr vo rawO) ∧ Hid (Dat w2 wr rawO (fK (.drop k) (TT.take i)))) (fun _ si _ => n1 - (intOf si).toNat)
 case atStart => exact ⟨0, [], rfl, Lh (Nat.zero_le _), Lh (OwnR.nil w2), Lh (Dat.nil _ _)⟩
 case round =>
  obtain ⟨i, rawO, rfl, Hi, HO, HDO⟩ := hrel
  obtain ⟨ao, co, rfl, _⟩ := HO.out.rd
  by_cases hlt : i < n1
  ·have i1 : (i : Int) < (n1 : Int) := by omega
   obtain ⟨b', o', x, rfl, hx, d1, d2⟩ := (HX.out.gr HO.out.2).at hlt
   obtain ⟨r, hr, xr, xo, xp⟩ := (HDX.out.gr HO.out.2).at hx
   have HTk := Lh (fK_take (s := (.drop k)) hr)
   have hmem := List.mem_of_getElem? hr
   obtain ⟨wA, hwA⟩ : ∃ wA, wr.alloc (.cells #[.slice x.a x.n x.c, .int .i64 x.y] 98) = wA := ⟨_, rfl⟩
   have gA : Gr wr wA := hwA ▸ (Gr.refl wr).alloc _
   obtain ⟨zx0, zx1⟩ := boxr' hwA rfl
   have HOA := Lh (HO.out.gr gA)
   have HDA := Lh (HDO.out.gr gA)
   have HXr := Lh (show Rd3 wA x.a x.n x.c r.1 ∧ Old w2 wA 3 x.n x.a ∧ Rep wA x.y r.2 from ⟨xr.gr gA, xo.gr gA, xp.gr gA⟩)
   have hcc := HC.out.1 r hmem
   have CK := Lh (show Calls Tryz.prog 102 #[.agg #[.int .i64 3, .int .i64 (k : Nat), .int .i64 0], .slice x.a x.n x.c] wA (RetB (keepsW (.drop k) r.1) wA) from keeps_any (.drop k) x.a x.n x.c r.1 wA (xr.gr gA) (by rw [xr.1]; exact hcc))
   have u0 := (HO.out.2.trans gA).cell z0
   have u1 := (HO.out.2.trans gA).cell z1
   have u2 := (HO.out.2.trans gA).cell z2
   have HMl := Lh (show rawO.length ≤ 1000 from by
    have h1 := HDO.out.1
    have h2 := HN2.out
    have h3 := fK_len (.drop k) (TT.take i)
    rw [List.length_take] at h3; omega)
   have HLi := Lh hlt
   have HOr := HO
   have HDr := HDO
   have HgA := Lh gA
   have HXr0 := Lh xp
   have HKr := Lh (show k < r.1.length ∧ r.1.length ≤ 1000 from ⟨hcc, hlen2 r hmem⟩)
   have zfA : wA.frozen? ⟨wr.heap.size, 0, none⟩ = false := hwA ▸ ((Gr.refl (wr.alloc (.cells #[.slice x.a x.n x.c, .int .i64 x.y] 98))).fresh (j := 0) (v := .slice x.a x.n x.c) rfl).2
   generalize hq : keepsW (.drop k) r.1 = q at *
   have HQ := Lh hq
   clear hx hr xr xo xp gA hlt HO HDO hmem hcc hq
   obtain ⟨xa, xn, xc, xy⟩ := x
   simp only at d1 d2 hwA HXr zx0 zx1 CK
   generalize hmm : rawO.length = m' at *
   have HMm := Lh hmm
   clear hmm
   cases q with
   | false =>
    have e3 := step64 HLi.out HN2.out.2
    clear z0 z1 z2 f0 f1 f2 f3
    go_wp2_with fail
    refine CK.out.mono ?_
    rintro e wB ⟨rfl, gB⟩
    have HOB := Lh (HOA.out.gr gB)
    have HDB := Lh (HDA.out.gr gB)
    clear d1 d2 hwA gB CK u0 u1 u2 zx0 zx1 i1
    go_wp2_with fail
    go_roundw
    case rel => exact ⟨i + 1, _, by first | (rw [e3]) | rfl | simp, Lh (Nat.succ_le_of_lt HLi.out), HOB, Lh (by rw [HTk.out]; simpa using HDB.out)⟩
    case measure => first | (rw [e3]; exact fall HLi.out) | exact fall HLi.out
   | true =>
    have e3 := step64 HLi.out HN2.out.2
    clear z0 z1 z2 f0 f1 f2 f3
    go_wp2_with fail
    refine CK.out.mono ?_
    rintro e wB ⟨rfl, gB⟩
    have HOB := Lh (HOA.out.gr gB)
    have HDB := Lh (HDA.out.gr gB)
    have HXB := Lh (show Rd3 wB xa xn xc r.1 ∧ Old w2 wB 3 xn xa ∧ Rep wB xy r.2 from ⟨HXr.out.1.gr gB, HXr.out.2.1.gr gB, HXr.out.2.2.gr gB⟩)
    have zx0' := zx0
    replace zx0 := gB.cell zx0
    replace zx1 := gB.cell zx1
    replace u0 := gB.cell u0
    replace u1 := gB.cell u1
    have zfB : wB.frozen? ⟨wr.heap.size, 0, none⟩ = false := by rw [Below.frozen gB (World.block_lt_of_cell? wA _ zx0')]; exact zfA
    have HgB := Lh gB
    obtain ⟨e4, e4'⟩ := wrap2 HKr.out
    clear d1 d2 hwA gB CK u2 i1 zfA zx0' HOA HDA HOB HDB
    go_wp2_with fail
    refine (wpIn_wide (n := 3)).1 ?_
    refine wpIn_region_mark (fun w' => Gr wB w') 10 11 (by kernel_rfl) rfl rfl ?_
    have hS : Gr wB wB.drew := (Gr.refl wB).drew
    refine Mk 0 rfl (c2 zx0 u1) hS ?_; refine Mk 1 rfl (c2 zx0 u1) hS ?_; refine Mk 3 rfl (c2 zx0 u1) hS ?_; refine Mk 4 rfl (c2 zx0 u1) hS ?_; refine Mk 5 rfl (c2 zx0 u1) hS ?_; refine Mk 6 rfl (c2 zx0 u1) hS ?_; refine Mk 7 rfl (c2 zx0 u1) hS ?_
    refine wpAnyMIn_ready [2] (by kernel_rfl) (by simp) ?_
    refine AllMIn.cons rfl (by rfl) (fun K hK => ?_) AllMIn.nil
    go_simp
    refine ⟨trivial, ?_⟩
    refine (callsIn_wide.2 (Clone3_any xa xn xc r.1 _ (HXB.out.1.gr hS) (by have := HXB.out.1.1; have := HKr.out; clear e3 e4; omega) (by have := HXB.out.1.1; have := HKr.out; clear e3 e4; omega))).mono ?_
    rintro e wZ ⟨bN, cN, cur, fz, rfl, l1, l2, l3, l4, l5, gZ, lf⟩
    have HbN := Lh (Nat.le_trans hS.size l5)
    have hS : Gr wB wZ := hS.trans gZ
    have CD := Lh (Delete3_any bN cN k r.1 cur fz wZ HKr.out.1 ⟨l1, l2⟩ l3 lf l4)
    have HcN := Lh (And.intro l1 l2)
    refine hK.out _ _ (fun _ => hS) ?_
    clear hK K gZ l1 l2 l3 l4 l5 lf
    refine wpAnyMIn_ready [8] (by kernel_rfl) (by simp) ?_
    refine AllMIn.cons rfl (by rfl) (fun K hK => ?_) AllMIn.nil
    go_simp
    refine ⟨trivial, ?_⟩
    refine (callsIn_wide.2 CD.out).mono ?_
    rintro e wD ⟨cur', rfl, gD, m1, m2⟩
    have hS : Gr wB wD := hS.grown gD (fun q hq => by cases hq; exact HbN.out)
    have HM := Lh (And.intro m1 m2)
    refine hK.out _ _ (fun _ => hS) ?_
    clear hK K CD gD m1 m2
    refine Mk 9 rfl (fun _ _ => trivial) hS ?_
    have y0 := hS.cell zx0
    have y1 := hS.cell zx1
    have yf : wD.frozen? ⟨wr.heap.size, 0, none⟩ = false := by rw [Below.frozen hS (World.block_lt_of_cell? wB _ zx0)]; exact zfB
    refine wpAnyMIn_ready [10] (by kernel_rfl) (by simp) ?_
    refine AllMIn.cons rfl (by rfl) (fun K hK => ?_) AllMIn.nil
    go_simp
    refine hK.out _ _ (fun h => absurd h (by decide)) ?_
    clear hK K
    refine wpAnyMIn_done (by kernel_rfl) ?_ _
    obtain ⟨wS, hwS⟩ : ∃ wS, wD.setCell ⟨wr.heap.size, 0, none⟩ (.slice (some ⟨bN, 0, none⟩) (r.1.length - 1) cN) = wS := ⟨_, rfl⟩
    have gWr : Wr wr.heap.size wD wS := hwS ▸ (Wr.refl _ wD).set 0 _
    have gS : Gr wr wS := hwS ▸ Gr.setAt (HgA.out.trans (HgB.out.trans hS)) (Nat.le_refl _) _
    have v0 : wS.cell? ⟨wr.heap.size, 0, none⟩ = some (.slice (some ⟨bN, 0, none⟩) (r.1.length - 1) cN) := hwS ▸ cell_near y0 _
    have v1 : wS.cell? ⟨wr.heap.size, 1, none⟩ = some (.int .i64 xy) := by rw [← hwS, World.cell?_setCell_other _ _ _ _ (by simp)]; exact y1
    rw [hwS]
    have HOS := Lh (HOr.out.gr gS)
    have HDS := Lh (HDr.out.gr gS)
    have hof : Off wr.heap.size (r.1.length - 1) (some ⟨bN, 0, none⟩) := .inr fun ad ha e => by
     obtain rfl := Option.some.inj ha
     have h1 := World.block_lt_of_cell? wB _ zx0
     have h2 := HbN.out
     simp only at e h1
     clear e3 e4
     omega
    have hol : Old w2 wD 3 (r.1.length - 1) (some ⟨bN, 0, none⟩) := .inr fun ad ha => by obtain rfl := Option.some.inj ha; exact .inr ⟨_, _, HM.out.2⟩
    have HXS := Lh (show Rd3 wS (some ⟨bN, 0, none⟩) (r.1.length - 1) cN (r.1.eraseIdx k) ∧ Old w2 wS 3 (r.1.length - 1) (some ⟨bN, 0, none⟩) ∧ Rep wS xy r.2 from ⟨⟨(eraseIdx_len HKr.out.1).symm, by have := HcN.out; clear e3 e4; omega, HcN.out.2, (fun e => by cases e), HM.out.1.wr gWr hof⟩, hol.wr gWr hof, HXr0.out.gr gS⟩)
    clear e4' hwS gWr gS y0 y1 yf hS hof hol zx0 zx1 zfB u0 u1 e4
    generalize hlN : r.1.length - 1 = lN at *
    clear hlN
    go_wp2_with (first
     | (at_builtin; refine wpList_app_row rfl _ _ 64 rfl Tryz.underlying64 _ rawO rfl (HOS.out.alloc _) _ ⟨some ⟨bN, 0, none⟩, lN, cN, xy⟩ rfl (boxr' rfl rfl) (by have h1 := HMl.out; have h2 := HMm.out; clear e3; omega) ?_; intro v3 w4 hown3 hg3; have HO3 := Lh hown3; have HD3 := Lh (((HDS.out.gr ((Gr.refl wS).alloc _)).snoc (x := ⟨some ⟨bN, 0, none⟩, lN, cN, xy⟩) (r := (r.1.eraseIdx k, r.2)) (HXS.out.1.gr ((Gr.refl wS).alloc _)) (HXS.out.2.1.gr ((Gr.refl wS).alloc _)) (HXS.out.2.2.gr ((Gr.refl wS).alloc _))).grown (v := .slice ao m' co) (HOS.out.alloc _) hg3); clear hown3 hg3)
     | go_in)
    go_roundw
    case rel => exact ⟨i + 1, _, by first | (rw [e3]) | rfl | simp, Lh (Nat.succ_le_of_lt HLi.out), HO3, Lh (by rw [HTk.out]; first | (rw [if_pos HQ.out]; exact HD3.out) | (rw [if_pos trivial]; exact HD3.out))⟩
    case measure => first | (rw [e3]; exact fall HLi.out) | exact fall HLi.out
  have hin : i = n1 := by have := Hi.out; omega
  subst hin
  have i1 : ¬ (i : Int) < (i : Int) := by omega
  have HD := Lh (show Dat w2 wr rawO (cutW R tabs (.drop k) p) by
   have h0 := HDO.out
   rw [HCut.out]
   rwa [List.take_of_length_le (show TT.length ≤ i by have := HN2.out; omega)] at h0)
  replace f0 := HO.out.2.cell f0
  replace f1 := HO.out.2.cell f1
  replace f2 := HO.out.2.cell f2
  replace f3 := HO.out.2.cell f3
  obtain ⟨hkn, hn, hnc, hnone, hkp⟩ := HK0.out
  clear hlt HDO z0 z1 z2 HX HDX
  have CG := Lh (show Calls Tryz.prog 104 #[.agg #[.func (.func F.p) #[] F.pb, .func (.func F.t) #[] F.tb, .func (.func F.s) #[] F.sb, .func (.func F.f) #[] F.fb], .slice ao rawO.length co] wr _ from gathered_any F R G μ B w2 wr _ rawO _ HO.out HD.out HL.out.1 (HF.out.gr HG2.out) HL.out.2.1 HL.out.2.2)
  generalize rawO.length = rl at *
  obtain ⟨i0, hi, hz0, hz1, hz2⟩ := info_tab
  obtain ⟨olds, ho1, ho2, ho3⟩ := HP.out.olds (k := kk) (by omega)
  have HI := Lh (And.intro hi (And.intro hz0 (And.intro hz1 (And.intro hz2 (And.intro ho1 (And.intro ho2 ho3))))))
  have HK := Lh (And.intro hkn (And.intro hn (And.intro hnc (And.intro hnone hkp))))
  have s1 : (kk : Int) ≤ (c : Int) := by omega
  clear hi hz0 hz1 hz2 ho1 ho2 ho3 hn hnc hnone hkn hkp
  go_wp2_with (first
   | (go_at_call 104; (with_reducible refine CG.out.mono ?_); rintro e w9 ⟨aT, nT, cT, rfl, hT, gT⟩; have HT := Lh hT; have GT := Lh gT; clear hT gT CG)
   | (at_builtin; refine wpList_append_grows _ rfl _ _ 100 rfl 65 i0 _ 1 24 Tryz.underlying100 HI.out.1 HI.out.2.1 HI.out.2.2.1 HI.out.2.2.2.1 rfl (by decide) _ _ _ olds rfl (fun e => by have h1 := HK.out; have h2 := h1.2.2.2.1 e; omega) (by rw [Nat.mul_one]; exact HI.out.2.2.2.2.1) (fun b hb j u hu => ((HG2.out.trans GT.out).trans ((Gr.refl w9).alloc _)).cell (HI.out.2.2.2.2.2.1 b hb j u hu)) _ _ _ [.slice aT nT cT] rfl rfl (fun j u hu => one_cell w9 hu) (by simp [Value.oneCell']) (by omega) (by unfold maxLen; have := HK.out; omega) (by have := HK.out; omega) ?_; intro v3 w4 hown3 hg3; have HH3 := Lh hown3; have G3 := Lh ((HG2.out.trans GT.out).trans (((Gr.refl w9).alloc (.cells #[.slice aT nT cT] 65)).grown hg3 (fun k hk => by cases hk))); have GL := Lh (((Gr.refl w9).alloc (.cells #[.slice aT nT cT] 65)).grown hg3 (fun k hk => by cases hk)); clear hown3 hg3)
   | go_in)
  obtain ⟨a', c', rfl, hpl⟩ := RdPl.push (p := p) (k := kk) HI.out.2.2.2.2.1 HI.out.2.2.2.2.2.2 HK.out.2.2.2.2 HH3.out G3.out ((HT.out.gr GL.out).own)
  rw [← HKK.out] at hpl
  refine bodyPost_ret (v := .tuple #[.slice a' (kk + 1) c', .bool _]) (by simp [results, Tryz.results74, go_sem]; rfl) rfl ?_
  exact ⟨_, _, _, rfl, hpl, G3.out⟩
theorem getD_mem {α : Type} {p : List α} {i : Nat} (d : α) (h : i < p.length) : p.getD i d ∈ p := by
 rw [List.getD_eq_getElem?_getD, List.getElem?_eq_getElem h]
 exact List.getElem_mem h
theorem does_any (F : RF) (R : Rg Int) (G : Int → Prop) (μ : Int → Nat) (B : Nat) (w : World) (a : Option Addr) (n c : Nat) (tabs p : List (Tbl Int)) (s : Wd) (bt bf : Nat) (hp : RdPl w w a n c p) (hn : n ≤ 1000) (hF : RingOk F R G μ B w) (hL : (cutW R tabs s p).length ≤ 1000) (hG : ∀ x ∈ cutW R tabs s p, G x.2) (hM : sumT μ (cutW R tabs s p) ≤ B)
  (hk : takesW s ≤ p.length) (hC : ∀ k, s = .put k → ∀ W, Gr w W → Calls Tryz.prog 72 #[.int .i64 k, .pointer (some ⟨bt, 0, none⟩), .pointer (some ⟨bf, 0, none⟩)] W (RetRows W (tabs.getD k [])))
  (hT : ∀ T ∈ p, T.length ≤ 1000 ∧ JoinOk R G T) (hcol : ∀ x ∈ p.getD (p.length - 1) [], colOk s x.1.length) :
  Calls Tryz.prog 74 #[F.val, .agg #[.int .i64 (stp s).1, .int .i64 (stp s).2.1, .int .i64 (stp s).2.2], .slice a n c, .func (.func 72) #[] #[.pointer (some ⟨bt, 0, none⟩), .pointer (some ⟨bf, 0, none⟩)]] w (RetDo w (restW s p ++ [gath R (cutW R tabs s p)]) (okT R (gath R (cutW R tabs s p)))) := by
 cases s with
 | put k => exact does_put F R G μ B w a n c tabs p k hp hn hF hL hG hM bt bf (hC k rfl)
 | orr => exact does_orr F R G μ B w a n c tabs p _ hp hn hF hL hG hM hk
 | byy =>
  have h2 : 2 ≤ p.length := hk
  have h3 := hT _ (getD_mem (i := p.length - 2) [] (by omega))
  have h4 := hT _ (getD_mem (i := p.length - 1) [] (by omega))
  exact does_byy F R G μ B w a n c tabs p _ hp hn hF hL hG hM hk ⟨h3.1, h4.1, h3.2, h4.2⟩
 | drop k =>
  have h2 : 1 ≤ p.length := hk
  have h4 := hT _ (getD_mem (i := p.length - 1) [] (by omega))
  exact does_drop F R G μ B w a n c tabs p k _ hp hn hF hL hG hM hk hcol h4.1 (fun x hx => by have := (h4.2 x hx).2.1; omega)
 | pick k m =>
  have h2 : 1 ≤ p.length := hk
  have h4 := hT _ (getD_mem (i := p.length - 1) [] (by omega))
  exact does_pick F R G μ B w a n c tabs p k m _ hp hn hF hL hG hM hk hcol h4.1
 | same k m =>
  have h2 : 1 ≤ p.length := hk
  have h4 := hT _ (getD_mem (i := p.length - 1) [] (by omega))
  exact does_same F R G μ B w a n c tabs p k m _ hp hn hF hL hG hM hk hcol h4.1
theorem cut_same {R : Rg Int} {G : Int → Prop} {pw : List Int} {tabs p : List (Tbl Int)} (s : Wd) (hL : RgL R G) (hp : PI R G pw p) (hk : takesW s ≤ p.length) :
  okT R (gath R (cutW R tabs s p)) = okT R (gath R (rowsW R.mul tabs s p)) ∧ (okT R (gath R (rowsW R.mul tabs s p)) = true → gath R (cutW R tabs s p) = gath R (rowsW R.mul tabs s p)) := by
 cases s with
 | byy =>
  have h2 : 2 ≤ p.length := hk
  have h1 := hp.1
  have hu := hp.2 (p.length - 2) (by omega)
  have hv := hp.2 (p.length - 1) (by omega)
  exact by_cut (join_srt' R.mul hu hv) (join_stays hL hu hv)
 | put _ => exact ⟨rfl, fun _ => rfl⟩
 | orr => exact ⟨rfl, fun _ => rfl⟩
 | drop _ => exact ⟨rfl, fun _ => rfl⟩
 | pick _ _ => exact ⟨rfl, fun _ => rfl⟩
 | same _ _ => exact ⟨rfl, fun _ => rfl⟩
theorem cut_mem {R : Rg Int} {tabs p : List (Tbl Int)} {s : Wd} {x : List Int × Int} (h : x ∈ cutW R tabs s p) : x ∈ rowsW R.mul tabs s p := by
 cases s with
 | byy => exact List.mem_of_mem_take h
 | put _ => exact h
 | orr => exact h
 | drop _ => exact h
 | pick _ _ => exact h
 | same _ _ => exact h
theorem TI.join {R : Rg Int} {G : Int → Prop} {W : Int} {T : Tbl Int} (h : TI R G W T) : T.length ≤ 1000 ∧ JoinOk R G T := by
 have hw := h.w1
 have ho := okT_le h.ok
 refine ⟨by have := ho.1; omega, fun x hx => ?_⟩
 have hl : x.1.length = W.toNat := h.wd x hx
 exact ⟨by omega, by omega, h.gd x hx, h.st x hx, ho.2 x hx⟩
theorem takes_le {ws pw qw : List Int} {s : Wd} (hw : widW ws s pw = some qw) : takesW s ≤ pw.length := by
 cases s with
 | put _ => exact Nat.zero_le _
 | orr =>
  unfold widW at hw; simp only [] at hw; split at hw
  ·cases hw
  simp only [takesW]; omega
 | byy =>
  unfold widW at hw; simp only [] at hw; split at hw
  ·cases hw
  simp only [takesW]; omega
 | drop _ =>
  unfold widW at hw; simp only [] at hw; split at hw
  ·cases hw
  simp only [takesW]; omega
 | pick _ _ =>
  unfold widW at hw; simp only [] at hw; split at hw
  ·cases hw
  simp only [takesW]; omega
 | same _ _ =>
  unfold widW at hw; simp only [] at hw; split at hw
  ·cases hw
  simp only [takesW]; omega
theorem col_ok {R : Rg Int} {G : Int → Prop} {ws pw qw : List Int} {p : List (Tbl Int)} {s : Wd} (hp : PI R G pw p) (hw : widW ws s pw = some qw) : ∀ x ∈ p.getD (p.length - 1) [], colOk s x.1.length := by
 intro x hx
 have h1 := hp.1
 have key : 1 ≤ pw.length → x.1.length = (pw.getD (pw.length - 1) 0).toNat ∧ 1 ≤ pw.getD (pw.length - 1) 0 := fun h => by
  have h2 := hp.2 (pw.length - 1) (by omega)
  rw [h1] at hx
  exact ⟨h2.wd x hx, h2.w1.1⟩
 cases s with
 | put _ => trivial
 | orr => trivial
 | byy => trivial
 | drop k =>
  have h3 := key (takes_le hw)
  unfold widW at hw; simp only [] at hw
  split at hw
  ·cases hw
  split at hw
  ·rename_i h4; simp only [colOk]; omega
  cases hw
 | pick k m =>
  have h3 := key (takes_le hw)
  unfold widW at hw; simp only [] at hw
  split at hw
  ·cases hw
  split at hw
  ·rename_i h4; simp only [colOk]; omega
  cases hw
 | same k m =>
  have h3 := key (takes_le hw)
  unfold widW at hw; simp only [] at hw
  split at hw
  ·cases hw
  split at hw
  ·rename_i h4; simp only [colOk]; omega
  cases hw
theorem cut_len {R : Rg Int} {G : Int → Prop} {ws pw qw : List Int} {tabs p : List (Tbl Int)} {s : Wd} (hg : GI G ws tabs) (hp : PI R G pw p) (hw : widW ws s pw = some qw) : (cutW R tabs s p).length ≤ 120 := by
 have h1 := hp.1
 have hk := takes_le hw
 have last : 1 ≤ pw.length → (p.getD (p.length - 1) []).length ≤ 60 := fun h => by rw [h1]; exact (okT_le (hp.2 (pw.length - 1) (by omega)).ok).1
 cases s with
 | put n =>
  unfold widW at hw; simp only [] at hw
  split at hw
  ·rename_i h
   have := (hg.2 n h).len
   show (tabs.getD n []).length ≤ 120
   omega
  cases hw
 | orr =>
  have h2 : 2 ≤ pw.length := hk
  have h3 := (okT_le (hp.2 (pw.length - 2) (by omega)).ok).1
  have h4 := last (by omega)
  rw [← h1] at h3
  show (p.getD (p.length - 2) [] ++ p.getD (p.length - 1) []).length ≤ 120
  rw [List.length_append]
  omega
 | byy =>
  show (List.take 61 _).length ≤ 120
  rw [List.length_take]
  omega
 | drop _ => exact Nat.le_trans (fK_len _ _) (by have := last hk; omega)
 | pick _ _ => exact Nat.le_trans (fK_len _ _) (by have := last hk; omega)
 | same _ _ => exact Nat.le_trans (fK_len _ _) (by have := last hk; omega)
theorem PI.mem {R : Rg Int} {G : Int → Prop} {pw : List Int} {p : List (Tbl Int)} (hp : PI R G pw p) {T : Tbl Int} (h : T ∈ p) : ∃ W, TI R G W T := by
 obtain ⟨i, hi, rfl⟩ := List.getElem_of_mem h
 have h1 := hp.2 i (by have := hp.1; omega)
 rw [List.getD_eq_getElem?_getD (l := p), List.getElem?_eq_getElem hi] at h1
 exact ⟨_, h1⟩
theorem step_any (F : RF) (R : Rg Int) (G : Int → Prop) (μ : Int → Nat) (B : Nat) (w : World) (a : Option Addr) (n c : Nat) (ws pw qw : List Int) (tabs p : List (Tbl Int)) (s : Wd) (bt bf : Nat) (hp : RdPl w w a n c p) (hn : n ≤ 1000) (hF : RingOk F R G μ B w) (hg : GI G ws tabs) (hP : PI R G pw p) (hw : widW ws s pw = some qw) (hM : sumT μ (cutW R tabs s p) ≤ B)
  (hC : ∀ k, s = .put k → ∀ W, Gr w W → Calls Tryz.prog 72 #[.int .i64 k, .pointer (some ⟨bt, 0, none⟩), .pointer (some ⟨bf, 0, none⟩)] W (RetRows W (tabs.getD k []))) :
  Calls Tryz.prog 74 #[F.val, .agg #[.int .i64 (stp s).1, .int .i64 (stp s).2.1, .int .i64 (stp s).2.2], .slice a n c, .func (.func 72) #[] #[.pointer (some ⟨bt, 0, none⟩), .pointer (some ⟨bf, 0, none⟩)]] w (RetDo w (restW s p ++ [gath R (cutW R tabs s p)]) (okT R (gath R (rowsW R.mul tabs s p)))) := by
 have hL := hF.law
 obtain ⟨W, _, _, hri, _⟩ := rows_RI hL hg hP hw
 have hk : takesW s ≤ p.length := by rw [hP.1]; exact takes_le hw
 rw [← (cut_same s hL hP hk).1]
 exact does_any F R G μ B w a n c tabs p s bt bf hp hn hF (Nat.le_trans (cut_len hg hP hw) (by omega)) (fun x hx => hri.gd x (cut_mem hx)) hM hk hC (fun T hT => (PI.mem hP hT).elim fun _ h => TI.join h) (col_ok hP hw)
end Go.Proofs.YtehdemcfeoiecaaGreatDoor.RI
