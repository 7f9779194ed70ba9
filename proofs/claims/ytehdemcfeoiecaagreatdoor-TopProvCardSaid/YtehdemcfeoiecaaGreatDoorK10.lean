import Derived.Test.YtehdemcfeoiecaaGreatDoorK09
set_option maxHeartbeats 64000000
set_option maxRecDepth 100000
namespace Go.Proofs.YtehdemcfeoiecaaGreatDoor.RS
open Go.RowKit Go.Firn Go.Firn.Tb
def RF.val (F : RF) : Value := .agg #[.func (.func F.p) #[] F.pb, .func (.func F.t) #[] F.tb, .func (.func F.s) #[] F.sb, .func (.func F.f) #[] F.fb]
theorem BoxF.new {w w1 : World} {F : RF} {e : TypeId} (h : w.alloc (.cells #[.func (.func F.p) #[] F.pb, .func (.func F.t) #[] F.tb, .func (.func F.s) #[] F.sb, .func (.func F.f) #[] F.fb] e) = w1) : BoxF w1 w.heap.size F := by subst h; unfold BoxF; simp
theorem OwnR.base {w0 w2 w : World} {v : Value} {raw : List Rw} (h : OwnR w2 w v raw) (g : Gr w0 w2) : OwnR w0 w v raw := by
 refine ⟨?_, g.trans h.2⟩
 obtain ⟨hl, hv⟩ := h.1
 refine ⟨hl, ?_⟩
 rcases hv with hv | ⟨g', cap, cur, h1, h2, h3⟩
 ·exact .inl hv
 exact .inr ⟨g', cap, cur, h1, Nat.le_trans g.size h2, h3⟩
theorem pkr_set : ∀ (raw : List Rw) (i : Nat) (x : Rw) (y : Nat), raw[i]? = some x → (pkr raw).set (i * 2 + 1) (.map (some y)) = pkr (raw.set i ⟨x.a, x.n, x.c, y⟩)
 | [], i, x, y, h => by simp at h
 | m :: ms, i, x, y, h => by
  have e : ∀ m ms, pkr (m :: ms) = .slice m.a m.n m.c :: .map (some m.y) :: pkr ms := fun _ _ => rfl
  cases i with
  | zero => simp at h; subst h; rw [e, List.set_cons_zero, e]; rfl
  | succ i =>
   rw [List.set_cons_succ, e, e, show (i + 1) * 2 + 1 = i * 2 + 1 + 1 + 1 by omega, List.set_cons_succ, List.set_cons_succ, pkr_set ms i x y (by simpa using h)]
theorem OwnR.set {w0 w : World} {g n c i : Nat} {raw : List Rw} {x : Rw} (h : OwnR w0 w (.slice (some ⟨g, 0, none⟩) n c) raw) (hn : n = raw.length) (hx : raw[i]? = some x) (y : Nat) :
  OwnR w0 (w.setCell ⟨g, i * 2 + 1, none⟩ (.map (some y))) (.slice (some ⟨g, 0, none⟩) n c) (raw.set i ⟨x.a, x.n, x.c, y⟩) := by
 subst hn
 obtain ⟨h1, h2⟩ := h.1.stored (i * 2 + 1) (.map (some y))
 refine ⟨?_, h.2.grown h2 fun b hb => ?_⟩
 ·rw [pkr_set raw i x y hx] at h1
  rw [List.length_set]
  exact h1
 cases hb
 exact (h.1.lt g rfl).1
theorem scrT9s_Datlast {P : Prop} (h : P := by
  refine ⟨by rw [List.length_set, h.1]; simp, fun i z r hz hr => ?_⟩
  rcases set_get hz with ⟨rfl, rfl⟩ | ⟨hne, hz⟩
  ·rw [List.getElem?_append_right (Nat.le_refl _), Nat.sub_self] at hr
   simp at hr
   subst hr
   obtain ⟨k1, k2, _⟩ := h.2 T.length x (u, e) hx (by rw [List.getElem?_append_right (Nat.le_refl _), Nat.sub_self]; rfl)
   exact ⟨k1, k2, hy⟩
  have hi : i < raw.length := by
   rcases Nat.lt_or_ge i raw.length with q | q
   ·exact q
   rw [List.getElem?_eq_none q] at hz; cases hz
  have hl := h.1
  rw [List.length_append] at hl
  simp only [List.length_cons, List.length_nil] at hl
  rw [List.getElem?_append_left (by omega)] at hr
  exact h.2 i z r hz (by rw [List.getElem?_append_left (by omega)]; exact hr)) : P := h
theorem Dat.last {w0 w : World} {raw : List Rw} {T : Tbl SL} {u : List Int} {e d : SL} {x : Rw} {y : Nat} (h : Dat w0 w raw (T ++ [(u, e)])) (hx : raw[T.length]? = some x) (hy : Rep w y d) : Dat w0 w (raw.set T.length ⟨x.a, x.n, x.c, y⟩) (T ++ [(u, d)]) := by exact scrT9s_Datlast
theorem ky_take {L : Tbl SL} {k : Nat} (h : k < L.length) : L.take (k + 1) = L.take k ++ [(kyAt L k, vlAt L k)] := by
 rw [List.take_add_one, ky_get h]; rfl
theorem OwnR.at {w0 w : World} {g n c i : Nat} {raw : List Rw} {x : Rw} (h : OwnR w0 w (.slice (some ⟨g, 0, none⟩) n c) raw) (hx : raw[i]? = some x) : w.cell? ⟨g, i * 2, none⟩ = some (.slice x.a x.n x.c) ∧ w.cell? ⟨g, i * 2 + 1, none⟩ = some (.map (some x.y)) ∧ w.frozen? ⟨g, i * 2, none⟩ = false ∧ w.frozen? ⟨g, i * 2 + 1, none⟩ = false := by
 rcases h.blk with ⟨e, _⟩ | ⟨g', c', cur, e, _, _, _, _, _, h6⟩
 ·simp at e
 simp only [Value.slice.injEq, Option.some.injEq, Addr.mk.injEq, and_true] at e
 rw [e.1]
 exact h6 i x hx
theorem Dat.setc {w0 w : World} {raw raw' : List Rw} {L : Tbl SL} {g n c : Nat} (h : Dat w0 w raw' L) (ho : OwnR w0 w (.slice (some ⟨g, 0, none⟩) n c) raw) (hn : n = raw.length) (j : Nat) (u : Value) : Dat w0 (w.setCell ⟨g, j, none⟩ u) raw' L := by
 subst hn
 exact h.grown ho (ho.1.stored j u).2
def RetG (w0 : World) (T : Tbl SL) (b : Bool) (e : Ending) (w' : World) : Prop := ∃ a n c, e = .returned (.tuple #[.slice a n c, .bool b]) ∧ RdT w0 w' a n c T ∧ Gr w0 w'
theorem scrT9s_ok_any {P : Prop} (h : P := by
  unfold okT
  congr 1
  rw [Bool.eq_iff_iff, List.all_eq_true, Bool.not_eq_true', List.any_eq_false]
  constructor
  ·intro h i hi
   have := h _ (List.mem_of_getElem? (ky_get (show i < T.length by simpa using hi)))
   simp only at this
   rw [this]; simp
  intro h x hx
  obtain ⟨i, hi, rfl⟩ := List.getElem_of_mem hx
  have := h i (by simpa using hi)
  have e := ky_get hi
  rw [List.getElem?_eq_getElem hi] at e
  rw [Option.some.inj e]
  simpa using this) : P := h
theorem ok_any {R : Rg SL} {T : Tbl SL} : okT R T = (decide (T.length ≤ 60) && !(List.range T.length).any fun i => !R.fits (vlAt T i)) := by exact scrT9s_ok_any
theorem scrT9s_gathered_any {P : Prop} (h : P := by
  have hmf : ∀ (fn : Fn) (first cap : Array Value) (w : World), (Instr.makeFunc fn first cap).run Tryz.prog w = .ok (.func fn first cap) w := fun _ _ _ _ => rfl
  unfold RF.val
  first | (have z := zS; clear z; obtain ⟨w1, hw1⟩ : ∃ w1, w.alloc (.cells #[.func (.func F.p) #[] F.pb, .func (.func F.t) #[] F.tb, .func (.func F.s) #[] F.sb, .func (.func F.f) #[] F.fb] 117) = w1 := ⟨_, rfl⟩) | (obtain ⟨w1, hw1⟩ : ∃ w1, w.alloc (.cells #[.func (.func F.p) #[] F.pb, .func (.func F.t) #[] F.tb, .func (.func F.s) #[] F.sb, .func (.func F.f) #[] F.fb] 63) = w1 := ⟨_, rfl⟩)
  have g1 : Gr w w1 := hw1 ▸ (Gr.refl w).alloc _
  have hb1 : BoxF w1 w.heap.size F := BoxF.new hw1
  have CS := Lh (sortT w0 w1 v raw L (hO.gr g1) (hD.gr g1) hn)
  have HB1 := Lh (show BoxF w1 w.heap.size F ∧ v.ownBlock ≠ some w.heap.size from ⟨hb1, fun e => by have := (hO.1.lt _ e).2; omega⟩)
  have HF := Lh hF
  have HL := Lh (And.intro hn (And.intro hG hM))
  obtain ⟨va, vc, rfl, _⟩ := hO.rd
  clear hO hD hn hF hG hM hb1 g1
  first | (have z := zS; clear z; go_enter Tryz.func141, Tryz.ntmps141) | (go_enter Tryz.func104, Tryz.ntmps104)
  generalize hbx : w.heap.size = bx at *
  go_wp2_with (first
   | ((first | go_at_call 132 | go_at_call 172); (with_reducible refine CS.out.mono ?_); rintro e w2 ⟨rfl, a, n, c, raw', L', hv, hr, hd, hs, hg0, hk⟩; have HR := Lh hr; have HD := Lh hd; have HS := Lh hs; have HG0 := Lh hg0; have HB2 := Lh (show BoxF w2 bx F from ⟨hk _ _ HB1.out.1.1 HB1.out.2, hk _ _ HB1.out.1.2.1 HB1.out.2, hk _ _ HB1.out.1.2.2.1 HB1.out.2, hk _ _ HB1.out.1.2.2.2 HB1.out.2⟩); simp only [Value.slice.injEq] at hv; obtain ⟨rfl, rfl, rfl⟩ := hv; clear hr hd hs hg0 hk CS))
  have HN := Lh (show raw.length = L'.length ∧ L'.length ≤ 1000 from ⟨HR.out.1.trans HD.out.1, by rw [HS.out.len]; exact HL.out.1⟩)
  generalize raw.length = n at *
  go_loopw [6, 14] (fun vo si wr => ∃ (k : Nat) (rawO : List Rw), si = .int .i64 k ∧ Hid (k ≤ n) ∧ Hid (OwnR w2 wr vo rawO) ∧ Hid (Dat w0 wr rawO (gat R.add (L'.take k)))) (fun _ si _ => n - (intOf si).toNat)
  case atStart => exact ⟨0, [], rfl, Lh (Nat.zero_le _), Lh (OwnR.nil w2), Lh (Dat.nil _ _)⟩
  case round =>
   clear HB1 hw1
   obtain ⟨k, rawO, rfl, Hk, HO, HDO⟩ := hrel
   have hk := Hk.out
   have hN := HN.out
   have hm := HDO.out.1
   obtain ⟨ao, co, rfl, hrd⟩ := HO.out.rd
   have hlen : (gat R.add (L'.take k)).length ≤ 1000 := Nat.le_trans (gat_len R.add _) (by rw [List.length_take]; omega)
   by_cases hlt : k < n
   ·have i1 : (k : Int) < (n : Int) := by omega
    obtain ⟨b, o, x, rfl, hx, c1, cc2⟩ := (HR.out.gr HO.out.2).at hlt
    obtain ⟨r, hr, xr, xo, xp⟩ := (HD.out.gr HO.out.2).at hx
    have hr2 := ky_get (show k < L'.length by omega)
    rw [hr] at hr2
    obtain rfl := Option.some.inj hr2
    simp only at xr xp
    have HX := Lh (And.intro xr (And.intro xo xp))
    have HNx := Lh (gat_next (add := R.add) (L := L'.take k) (v := kyAt L' k) (d := vlAt L' k) (fun y hy => by
     obtain ⟨i, hi, rfl⟩ := List.getElem_of_mem hy
     rw [List.length_take] at hi
     have h0 := HS.out.ord i k (by omega) (by omega)
     have e := ky_get (show i < L'.length by omega)
     rw [List.getElem?_eq_getElem (by omega)] at e
     rw [List.getElem_take, Option.some.inj e]
     exact h0))
    rw [← ky_take (show k < L'.length by omega)] at HNx
    have HSm := Lh (show sumT μ (gat R.add (L'.take k)) + μ (vlAt L' k) ≤ B from by
     have hgd : ∀ y ∈ L', G y.2 := fun y hy => HL.out.2.1 y (HS.out.mem y hy)
     have h1 := gat_sumG μ R.add HF.out.law.gadd HF.out.mu (L'.take k) (fun y hy => hgd y (List.mem_of_mem_take hy))
     have h2 := sumT_take μ L' (k + 1)
     rw [ky_take (show k < L'.length by omega), sumT_app] at h2
     have h3 : sumT μ [(kyAt L' k, vlAt L' k)] = μ (vlAt L' k) := by simp [sumT]
     have h4 := HS.out.sum μ
     have := HL.out.2.2
     omega)
    have HGd := Lh (show (∀ y ∈ gat R.add (L'.take k), G y.2) ∧ G (vlAt L' k) from ⟨gat_all R.add HF.out.law.gadd _ (fun y hy => HL.out.2.1 y (HS.out.mem y (List.mem_of_mem_take hy))), HL.out.2.1 _ (HS.out.mem _ (List.mem_of_getElem? hr))⟩)
    first | (have z := zS; clear z; obtain ⟨wA, hwA⟩ : ∃ wA, wr.alloc (.cells #[.slice x.a x.n x.c, .map (some x.y)] 121) = wA := ⟨_, rfl⟩) | (obtain ⟨wA, hwA⟩ : ∃ wA, wr.alloc (.cells #[.slice x.a x.n x.c, .int .i64 x.y] 98) = wA := ⟨_, rfl⟩)
    have gA : Gr wr wA := hwA ▸ (Gr.refl wr).alloc _
    obtain ⟨z0, z1⟩ := boxr' hwA rfl
    have HOA := Lh (HO.out.gr gA)
    have HDA := Lh (HDO.out.gr gA)
    first | (have z := zS; clear z; have HXA := Lh (show Rd3 wA x.a x.n x.c (kyAt L' k) ∧ Old EW wA 3 x.n x.a ∧ Rep wA x.y (vlAt L' k) from ⟨HX.out.1.gr gA, HX.out.2.1.gr gA, HX.out.2.2.gr gA⟩)) | (have HXA := Lh (show Rd3 wA x.a x.n x.c (kyAt L' k) ∧ Old w0 wA 3 x.n x.a ∧ Rep wA x.y (vlAt L' k) from ⟨HX.out.1.gr gA, HX.out.2.1.gr gA, HX.out.2.2.gr gA⟩))
    have HBA := Lh (HB2.out.gr (HO.out.2.trans gA))
    have HK := Lh (show k < n ∧ n ≤ 1000 ∧ rawO.length ≤ 1000 from ⟨hlt, by omega, by rw [hm]; exact hlen⟩)
    have HM := Lh hm
    clear hr hx xr xo xp gA HX hrd hk hN hm hlen hlt HO HDO
    obtain ⟨xa, xn, xc, xy⟩ := x
    simp only at c1 cc2 hwA z0 z1 HXA
    generalize kyAt L' k = ky at *
    generalize vlAt L' k = vl at *
    generalize hO2 : gat R.add (L'.take (k + 1)) = O2 at *
    generalize gat R.add (L'.take k) = O at *
    have HO2 := Lh hO2
    clear hO2
    have HRl := Lh (show rawO.length ≤ 1000 from HK.out.2.2)
    generalize hmm : rawO.length = m at HK HM HOA ⊢
    rcases HNx.out with ⟨rfl, rfl⟩ | ⟨T, u, e, rfl, hcase⟩
    focus
     have hm0 : m = 0 := by rw [HM.out]; rfl
     have hraw : rawO = [] := List.length_eq_zero_iff.1 (by omega)
     subst hm0
     subst hraw
     have e1 : IntKind.i64.wrap ((0 : Int) - 1) = -1 := by decide
     have e2 : IntKind.i64.wrap (-1) = -1 := by decide
     clear hmm HNx
     go_wp2_with fail
     refine Hg (fun w' => Gr wA w') 12 ?_
     have hS : Gr wA wA.drew := (Gr.refl wA).drew
     refine H3 0 1 2 tv hS ?_; refine Hs8 3 4 5 6 7 8 9 10 hS ?_; refine H1 11 tv hS ?_
     refine Hd ?_
     obtain ⟨wX, hwX⟩ : ∃ wX, wA.drew = wX := ⟨_, rfl⟩
     rw [hwX] at hS ⊢
     clear c1 cc2 hwX
     have z0 := hS.cell z0
     have z1 := hS.cell z1
     have HOX := Lh (HOA.out.gr hS)
     have HDX := Lh (HDA.out.gr hS)
     have HXX := Lh (And.intro (HXA.out.1.gr hS) (And.intro (HXA.out.2.1.gr hS) (HXA.out.2.2.gr hS)))
     clear hS HOA HDA HXA HBA e1 e2
     go_wp2_with (first
      | (at_builtin; refine wpList_app_row rfl _ _ 109 rfl Tryz.underlying109 _ _ rfl (HOX.out.alloc _) _ ⟨xa, xn, xc, xy⟩ rfl (boxr' rfl rfl) (by simp) ?_; intro v1 w3 hown3 hg3; have HO3 := Lh hown3; have HD3 := Lh (((HDX.out.gr ((Gr.refl wX).alloc _)).snoc (x := ⟨xa, xn, xc, xy⟩) (r := (ky, vl)) (HXX.out.1.gr ((Gr.refl wX).alloc _)) (HXX.out.2.1.gr ((Gr.refl wX).alloc _)) (HXX.out.2.2.gr ((Gr.refl wX).alloc _))).grown (v := .slice ao 0 co) (OwnR.base (HOX.out.alloc _) HG0.out) hg3); clear hown3 hg3)
      | (at_builtin; refine wpList_app_row rfl _ _ 65 rfl Tryz.underlying65 _ _ rfl (HOX.out.alloc _) _ ⟨xa, xn, xc, xy⟩ rfl (boxr' rfl rfl) (by simp) ?_; intro v1 w3 hown3 hg3; have HO3 := Lh hown3; have HD3 := Lh (((HDX.out.gr ((Gr.refl wX).alloc _)).snoc (x := ⟨xa, xn, xc, xy⟩) (r := (ky, vl)) (HXX.out.1.gr ((Gr.refl wX).alloc _)) (HXX.out.2.1.gr ((Gr.refl wX).alloc _)) (HXX.out.2.2.gr ((Gr.refl wX).alloc _))).grown (v := .slice ao 0 co) (OwnR.base (HOX.out.alloc _) HG0.out) hg3); clear hown3 hg3)
      | go_in)
    rotate_left
    focus
     obtain ⟨kk, hkk⟩ : ∃ kk, kk = T.length := ⟨_, rfl⟩
     have hmk : m = kk + 1 := by rw [HM.out, hkk]; simp
     obtain ⟨y, hy⟩ : ∃ y, rawO[kk]? = some y := ⟨_, List.getElem?_eq_getElem (show kk < rawO.length by omega)⟩
     obtain ⟨g, hg⟩ : ∃ g, ao = some ⟨g, 0, none⟩ := by
      rcases HOA.out.blk with ⟨_, e0⟩ | ⟨g, c', cur, e0, _⟩
      ·rw [e0] at hy; simp at hy
      simp only [Value.slice.injEq] at e0
      exact ⟨g, e0.1⟩
     subst hg
     obtain ⟨ru, hru, yr, yo, yp⟩ := HDA.out.at hy
     obtain rfl : ru = (u, e) := by
      rw [hkk, List.getElem?_append_right (Nat.le_refl _), Nat.sub_self] at hru
      simpa using hru.symm
     simp only at yr yp
     obtain ⟨yc0, yc1, _, _⟩ := HOA.out.at hy
     have e1 : IntKind.i64.wrap ((m : Int) - 1) = (kk : Int) := by rw [IntWalk.i64_in _ (by have := HK.out; omega)]; omega
     have i2 : (0 : Int) ≤ (kk : Int) := by omega
     have i3 : (kk : Int) < (m : Int) := by omega
     have HKk := Lh (And.intro hkk (And.intro hmk hy))
     have CE := Lh (fun W (k : Gr wA W) => Equal_any y.a xa y.n xn y.c xc u ky W (yr.gr k) (HXA.out.1.gr k))
     have HY := Lh (And.intro yr yp)
     clear hkk hmk hy hru yr yo yp hmm
     obtain ⟨ya, yn, yc, yy0⟩ := y
     simp only at yc0 yc1 CE HY
     go_wp2_with fail
     refine Hg (fun w' => Gr wA w') 12 ?_
     have hS : Gr wA wA.drew := (Gr.refl wA).drew
     refine H5 0 1 2 3 4 (c2 yc0 z0) hS ?_; refine H5 5 6 7 8 9 (c2 yc0 z0) hS ?_
     refine Hr 10 rfl (fun K hK => ?_)
     go_simp
     refine ⟨trivial, ?_⟩
     refine (callsIn_wide.2 (CE.out _ hS)).mono ?_
     rintro e wX ⟨rfl, gX⟩
     have hS : Gr wA wX := hS.trans gX
     refine hK.out _ _ hS ?_
     clear hK K gX
     refine H1 11 tv hS ?_
     refine Hd ?_
     clear c1 cc2 CE
     have HOX := Lh (HOA.out.gr hS)
     have HDX := Lh (HDA.out.gr hS)
     have HXX := Lh (And.intro (HXA.out.1.gr hS) (And.intro (HXA.out.2.1.gr hS) (HXA.out.2.2.gr hS)))
     have HYX := Lh (HY.out.2.gr hS)
     have HBX := Lh (HBA.out.gr hS)
     replace z0 := hS.cell z0
     replace z1 := hS.cell z1
     replace yc1 := hS.cell yc1
     clear hS HOA HDA HXA HBA HY yc0
     rcases hcase with ⟨rfl, rfl⟩ | ⟨hne, rfl⟩
     focus
      have hd : decide (u = u) = true := decide_eq_true rfl
      rw [hd]
      obtain ⟨bf, _⟩ := HBX.out
      have HMu := Lh (show μ e + μ vl ≤ B from by
       have h1 := HSm.out
       rw [sumT_app] at h1
       have : sumT μ [(u, e)] = μ e := by simp [sumT]
       omega)
      have CP := Lh (fun W (k : Gr wX W) => HF.out.plus W yy0 xy e vl ((HG0.out.trans HOX.out.2).trans k) (HYX.out.gr k) (HXX.out.2.2.gr k) (HGd.out.1 (u, e) (by simp)) HGd.out.2 HMu.out)
      have HYc := Lh (fun W (k : Gr wX W) => (HOX.out.gr k).at HKk.out.2.2)
      have hcf := HF.out.ep
      go_wp2_with fail
      refine (wpIn_wide (n := 3)).1 ?_
      refine wpIn_region_mark (fun w' => Gr wX w') 14 15 (by kernel_rfl) rfl rfl ?_
      have hS : Gr wX wX.drew := (Gr.refl wX).drew
      refine Mk 0 rfl (c3 bf yc1 z1) hS ?_; refine Mk 1 rfl (c3 bf yc1 z1) hS ?_; refine Mk 2 rfl (c3 bf yc1 z1) hS ?_; refine Mk 3 rfl (c3 bf yc1 z1) hS ?_; refine Mk 4 rfl (c3 bf yc1 z1) hS ?_; refine Mk 5 rfl (c3 bf yc1 z1) hS ?_; refine Mk 6 rfl (c3 bf yc1 z1) hS ?_; refine Mk 7 rfl (c3 bf yc1 z1) hS ?_; refine Mk 8 rfl (c3 bf yc1 z1) hS ?_; refine Mk 9 rfl (c3 bf yc1 z1) hS ?_; refine Mk 10 rfl (c3 bf yc1 z1) hS ?_
      refine wpAnyMIn_ready [11] (by kernel_rfl) (by simp) ?_
      refine AllMIn.cons rfl (by rfl) (fun K hK => ?_) AllMIn.nil
      go_simp
      refine ⟨trivial, ?_⟩
      refine (callsIn_wide.2 (CP.out _ hS)).mono ?_
      rintro e wY ⟨yy, rfl, hrep, gY⟩
      have HRp := Lh hrep
      have hS : Gr wX wY := hS.trans gY
      refine hK.out _ _ (fun _ => hS) ?_
      clear hK K gY hrep
      refine Mk 12 rfl (fun _ _ => trivial) hS ?_; refine Mk 13 rfl (fun _ _ => trivial) hS ?_
      obtain ⟨yc0', yc1', fr0, fr1⟩ := HYc.out _ hS
      refine wpAnyMIn_ready [14] (by kernel_rfl) (by simp) ?_
      refine AllMIn.cons rfl (by rfl) (fun K hK => ?_) AllMIn.nil
      go_simp
      refine hK.out _ _ (fun h => absurd h (by decide)) ?_
      clear hK K
      refine wpAnyMIn_done (by kernel_rfl) ?_ _
      clear CP HYc
      have HO3 := Lh ((HOX.out.gr hS).set (HKk.out.2.1.trans (by have h1 := HKk.out.1; have h2 := HDX.out.1; simp at h2; omega)) HKk.out.2.2 yy)
      first
      | have z := zS
        clear z
        have HD3 := Lh (show Dat w0 (wY.setCell ⟨g, kk * 2 + 1, none⟩ (.map (some yy))) (rawO.set kk ⟨ya, yn, yc, yy⟩) (T ++ [(u, R.add e vl)]) by
         have h1 := HKk.out.1
         have := (HDX.out.gr hS).last (by rw [← h1]; exact HKk.out.2.2) HRp.out
         rw [← h1] at this
         exact this.setc (OwnR.base (HOX.out.gr hS) HG0.out) (HKk.out.2.1.trans (by have h1 := HKk.out.1; have h2 := HDX.out.1; simp at h2; omega)) _ _)
      | have HD3 := Lh (show Dat w0 (wY.setCell ⟨g, kk * 2 + 1, none⟩ (.int .i64 yy)) (rawO.set kk ⟨ya, yn, yc, yy⟩) (T ++ [(u, R.add e vl)]) by
         have h1 := HKk.out.1
         have := (HDX.out.gr hS).last (by rw [← h1]; exact HKk.out.2.2) HRp.out
         rw [← h1] at this
         exact this.setc (OwnR.base (HOX.out.gr hS) HG0.out) (HKk.out.2.1.trans (by have h1 := HKk.out.1; have h2 := HDX.out.1; simp at h2; omega)) _ _)
      clear hS HOX HDX HXX HYX HBX yc1 z0 z1 yc0' yc1' fr0 fr1 bf e1 i2 i3
      go_wp2_with fail
     rotate_left
     focus
      have hd : decide (u = ky) = false := decide_eq_false hne
      rw [hd]
      clear e1 i2 i3
      go_wp2_with (first
       | (at_builtin; refine wpList_app_row rfl _ _ 109 rfl Tryz.underlying109 _ _ rfl (HOX.out.alloc _) _ ⟨xa, xn, xc, xy⟩ rfl (boxr' rfl rfl) (by have := HRl.out; omega) ?_; intro v1 w3 hown3 hg3; have HO3 := Lh hown3; have HD3 := Lh (((HDX.out.gr ((Gr.refl wX).alloc _)).snoc (x := ⟨xa, xn, xc, xy⟩) (r := (ky, vl)) (HXX.out.1.gr ((Gr.refl wX).alloc _)) (HXX.out.2.1.gr ((Gr.refl wX).alloc _)) (HXX.out.2.2.gr ((Gr.refl wX).alloc _))).grown (v := .slice (some ⟨g, 0, none⟩) m co) (OwnR.base (HOX.out.alloc _) HG0.out) hg3); clear hown3 hg3)
       | (at_builtin; refine wpList_app_row rfl _ _ 65 rfl Tryz.underlying65 _ _ rfl (HOX.out.alloc _) _ ⟨xa, xn, xc, xy⟩ rfl (boxr' rfl rfl) (by have := HRl.out; omega) ?_; intro v1 w3 hown3 hg3; have HO3 := Lh hown3; have HD3 := Lh (((HDX.out.gr ((Gr.refl wX).alloc _)).snoc (x := ⟨xa, xn, xc, xy⟩) (r := (ky, vl)) (HXX.out.1.gr ((Gr.refl wX).alloc _)) (HXX.out.2.1.gr ((Gr.refl wX).alloc _)) (HXX.out.2.2.gr ((Gr.refl wX).alloc _))).grown (v := .slice (some ⟨g, 0, none⟩) m co) (OwnR.base (HOX.out.alloc _) HG0.out) hg3); clear hown3 hg3)
       | go_in)
    all_goals
     have hK := HK.out
     have e3 : wrap64 ((k : Int) + 1) = ((k + 1 : Nat) : Int) := by rw [IntWalk.wrap64_in _ (by omega)]; omega
     go_roundw
     case rel => exact ⟨k + 1, _, by first | (rw [e3]) | rfl | simp, Lh (by clear e3; omega), HO3, Lh (by rw [HO2.out]; exact HD3.out)⟩
     case measure => first | (rw [e3]; clear e3; simp only [intOf]; omega) | (clear e3; simp only [intOf]; omega)
   obtain rfl : k = n := by omega
   have i1 : ¬ (k : Int) < (k : Int) := by omega
   have hT : gat R.add (L'.take k) = gat R.add L := by rw [List.take_of_length_le (by omega), HS.out.gat]
   rw [hT] at HDO hlen
   have hgd : ∀ y ∈ gat R.add L, G y.2 := gat_all R.add HF.out.law.gadd _ HL.out.2.1
   have CD := Lh (deleteT F R G μ B bx w0 wr (.slice ao rawO.length co) rawO (gat R.add L) (OwnR.base HO.out HG0.out) HDO.out hlen (HB2.out.gr HO.out.2) (fun e => by
    have h1 := (HO.out.1.lt _ e).1
    have h2 := HB2.out.lt
    omega) HF.out hgd)
   have HBr := Lh (show BoxF wr bx F ∧ (Value.slice ao rawO.length co).ownBlock ≠ some bx from ⟨HB2.out.gr HO.out.2, fun e => by
    have h1 := (HO.out.1.lt _ e).1
    have h2 := HB2.out.lt
    omega⟩)
   have HGg := Lh (show ∀ y ∈ gath R L, G y.2 ∧ μ y.2 ≤ B from fun y hy => ⟨hgd y (List.mem_filter.1 hy).1, by
    have h1 := sumT_mem μ (List.mem_filter.1 hy).1
    have h2 := gat_sumG μ R.add HF.out.law.gadd HF.out.mu L HL.out.2.1
    have := HL.out.2.2
    omega⟩)
   first | (have z := zS; clear z; have hg3 : ∀ args w, (callFunc 177 args).run Tryz.prog w = .ok (.enter 177 args) w := fun args w => by kernel_rfl) | (have hg3 : ∀ args w, (callFunc 138 args).run Tryz.prog w = .ok (.enter 138 args) w := fun args w => by kernel_rfl)
   have HGl := Lh (show (gath R L).length ≤ 1000 from Nat.le_trans (List.length_filter_le _ _) hlen)
   clear hrd hk hN hm hlen hlt hT hgd HO HDO
   go_upto_region 12 with ((first | go_at_call 135 | go_at_call 174); (with_reducible refine CD.out.mono ?_); rintro e w4 ⟨a4, n4, c4, rfl, h4, g4, k4⟩; have HT4 := Lh (show RdT w0 w4 a4 n4 c4 (gath R L) from h4); have G4 := Lh g4; have HB4 := Lh (show BoxF w4 bx F from ⟨k4 _ _ HBr.out.1.1 HBr.out.2, k4 _ _ HBr.out.1.2.1 HBr.out.2, k4 _ _ HBr.out.1.2.2.1 HBr.out.2, k4 _ _ HBr.out.1.2.2.2 HBr.out.2⟩); clear h4 g4 k4 CD)
   have hT4 := HT4.out
   have hl4 := hT4.len
   obtain ⟨raw4, hr4, hd4⟩ := hT4
   first
   | have z := zS
     clear z
     have CH := Lh (has_any 177 bx (fun i => !R.fits (vlAt (gath R L) i)) a4 n4 c4 raw4 w4 (by have h1 : n4 = (gath R L).length := hl4; have := HGl.out; omega) hr4 hg3 (fun W i x k hx => by
      have hi : i < (gath R L).length := by
       rcases Nat.lt_or_ge i raw4.length with q | q
       ·exact Nat.lt_of_lt_of_le q (Nat.le_of_eq hd4.1)
       rw [List.getElem?_eq_none q] at hx; cases hx
      obtain ⟨_, _, hrp⟩ := hd4.2 i x _ hx (ky_get hi)
      have hgm := HGg.out _ (List.mem_of_getElem? (ky_get hi))
      exact misfits_any F bx x (R.fits (vlAt (gath R L) i)) W HF.out.ef (HB4.out.gr k) (fun W2 k2 => HF.out.fits W2 x.y _ ((G4.out.trans k).trans k2) ((hrp.gr k).gr k2) hgm.1 hgm.2)))
   | have CH := Lh (has_any 138 bx (fun i => !R.fits (vlAt (gath R L) i)) a4 n4 c4 raw4 w4 (by have h1 : n4 = (gath R L).length := hl4; have := HGl.out; omega) hr4 hg3 (fun W i x k hx => by
      have hi : i < (gath R L).length := by
       rcases Nat.lt_or_ge i raw4.length with q | q
       ·exact Nat.lt_of_lt_of_le q (Nat.le_of_eq hd4.1)
       rw [List.getElem?_eq_none q] at hx; cases hx
      obtain ⟨_, _, hrp⟩ := hd4.2 i x _ hx (ky_get hi)
      have hgm := HGg.out _ (List.mem_of_getElem? (ky_get hi))
      exact misfits_any F bx x (R.fits (vlAt (gath R L) i)) W HF.out.ef (HB4.out.gr k) (fun W2 k2 => HF.out.fits W2 x.y _ ((G4.out.trans k).trans k2) ((hrp.gr k).gr k2) hgm.1 hgm.2)))
   rw [show n4 = (gath R L).length from hl4] at CH
   clear hr4 hd4 hg3
   have HOk := Lh (ok_any (R := R) (T := gath R L))
   have HL4 := Lh hl4
   clear hl4
   generalize hGT : gath R L = GT at *
   have HGT := Lh (show n4 = GT.length by rw [HL4.out, ← hGT])
   clear hGT HL4
   by_cases h60 : GT.length ≤ 60
   ·have j1 : (n4 : Int) ≤ 60 := by rw [HGT.out]; omega
    have hdd : okT R GT = !((List.range GT.length).any fun i => !R.fits (vlAt GT i)) := by rw [HOk.out, decide_eq_true h60]; rfl
    rw [← HGT.out] at CH hdd
    generalize (List.range n4).any (fun i => !R.fits (vlAt GT i)) = bb at *
    have HDd := Lh hdd
    clear h60 hdd
    go_wp2_with ((first | go_at_call 137 | go_at_call 176); (with_reducible refine CH.out.mono ?_); rintro e w5 ⟨rfl, g5⟩; have G5 := Lh g5; clear g5)
    first | (have z := zS; clear z; refine bodyPost_ret (v := .tuple #[.slice a4 n4 c4, .bool (!bb)]) (by simp [results, Tryz.results141, go_sem]) rfl ?_) | (refine bodyPost_ret (v := .tuple #[.slice a4 n4 c4, .bool (!bb)]) (by simp [results, Tryz.results104, go_sem]) rfl ?_)
    exact ⟨a4, n4, c4, by rw [HDd.out], HT4.out.gr G5.out, G4.out.trans G5.out⟩
   have j1 : ¬ (n4 : Int) ≤ 60 := by rw [HGT.out]; omega
   have hdd : okT R GT = false := by rw [HOk.out, decide_eq_false h60]; rfl
   have HDd := Lh hdd
   clear h60 hdd CH
   go_wp2_with fail
   first | (have z := zS; clear z; refine bodyPost_ret (v := .tuple #[.slice a4 n4 c4, .bool false]) (by simp [results, Tryz.results141, go_sem]) rfl ?_) | (refine bodyPost_ret (v := .tuple #[.slice a4 n4 c4, .bool false]) (by simp [results, Tryz.results104, go_sem]) rfl ?_)
   exact ⟨a4, n4, c4, by rw [HDd.out], HT4.out, G4.out⟩) : P := h
theorem gathered_any (F : RF) (R : Rg SL) (G : SL → Prop) (μ : SL → Nat) (B : Nat) (w0 w : World) (v : Value) (raw : List Rw) (L : Tbl SL) (hO : OwnR w0 w v raw) (hD : Dat w0 w raw L) (hn : L.length ≤ 1000) (hF : RingOk F R G μ B w0) (hG : ∀ x ∈ L, G x.2) (hM : sumT μ L ≤ B) :
  Calls Tryz.prog 141 #[F.val, v] w (RetG w0 (gath R L) (okT R (gath R L))) := by have zS := trivial; exact scrT9s_gathered_any
section
variable {ops : Array Oper} {rest : List Oper} {o : Oper} {a : Act} {Q : Exit → Act → World → Prop}
theorem scrTAs_wpList_any_row {P : Prop} (h : P := by
  obtain ⟨h1, h2, h3, h4, h5⟩ := hX
  cases ax with
  | none =>
   have hc := h4 rfl
   have hn : n = 0 := by omega
   subst hc; subst hn
   have hX0 : X = [] := List.length_eq_zero_iff.1 h1.symm
   subst hX0
   refine wpList_plain hgd fun _ hK => ?_
   obtain ⟨i0, hi, _⟩ := info_row
   first | (have z := zS; clear z; have hr := run_append_owned_none w w0.heap.size t o.type 121 i0 2 ht hi v raw.length (pkr raw) hown.1) | (have hr := run_append_owned_none w w0.heap.size t o.type 98 i0 2 ht hi v raw.length (pkr raw) hown.1)
   unfold Oper.wp execOp
   simp only [ho, resolve, invoke, builtin, Sem.run_bind, Sem.run_pure, Result.andThen_ok, List.map_toArray, List.map_cons, List.map_nil, hs, hx, hr]
   refine hK _ _ (h v w (by rw [List.append_nil]; exact hown) ⟨rfl, rfl, rfl, Nat.le_refl _, fun _ _ _ => rfl⟩)
  | some ad =>
   rcases h5 with h5 | ⟨b, off, e, hc⟩
   ·subst h5
    have hX0 : X = [] := List.length_eq_zero_iff.1 h1.symm
    subst hX0
    obtain ⟨i0, hi, hz0, hz1, hz2⟩ := info_row
    first | (have z := zS; clear z; refine wpList_append_own w hgd s x t ho w0.heap.size 121 i0 _ 2 32 ht hi hz0 hz1 hz2 rfl (by decide) v raw.length (pkr raw) hs hown.1 ad 0 c [] hx rfl (fun j u hu => by simp at hu) (fun u hu => by simp at hu) (by unfold maxLen; omega) (by omega) hown.2.size ?_) | (refine wpList_append_own w hgd s x t ho w0.heap.size 98 i0 _ 2 32 ht hi hz0 hz1 hz2 rfl (by decide) v raw.length (pkr raw) hs hown.1 ad 0 c [] hx rfl (fun j u hu => by simp at hu) (fun u hu => by simp at hu) (by unfold maxLen; omega) (by omega) hown.2.size ?_)
    intro v' w' k1 k2 _
    rw [List.append_nil, Nat.add_zero] at k1
    exact h v' w' ⟨by rw [List.append_nil]; exact k1, hown.2.grown k2 fun k hk => (hown.1.lt k hk).1⟩ k2
   obtain rfl := Option.some.inj e
   exact wpList_cat_row hgd s x t ho ht v raw hs hown b off n c X hx h1.symm hc hk h) : P := h
theorem wpList_any_row (hgd : o.guard = none) (s x : Operand) (t : TypeId)
  (ho : o.op = .call { callee := .builtin .append, args := #[s, x], argTypes := #[t, t] }) (ht : Tryz.prog.underlying t = some (.slice 121))
  {w0 w : World} (v : Value) (raw : List Rw) (hs : a.eval s = v) (hown : OwnR w0 w v raw)
  (ax : Option Addr) (n c : Nat) (X : List Rw) (hx : a.eval x = .slice ax n c) (hX : RdR w ax n c X) (hk : raw.length + n ≤ 1000000)
  (h : ∀ v' w', OwnR w0 w' v' (raw ++ X) → w.grownBy w' v.ownBlock → wpList Tryz.prog ops Q rest (a.put o.dst v') w') : wpList Tryz.prog ops Q (o :: rest) a w := by have zS := trivial; exact scrTAs_wpList_any_row
end
theorem GrowR_any (z : Int) (k : Nat) (hz : z = k) (hk : k ≤ 100000) (w0 w : World) (g : Gr w0 w) : Calls Tryz.prog 171 #[.slice none 0 0, .int .i64 z] w fun e w' => ∃ v, e = .returned v ∧ OwnR w0 w' v [] ∧ Gr w0 w' := by
 subst hz
 rcases Nat.eq_zero_or_pos k with rfl | h1
 ·have h : Calls Tryz.prog 171 #[.slice none 0 0, .int .i64 (0 : Nat)] w _ := Any8.slices_Grow_room Tryz.grow171 none 0 0 0 w (Nat.le_refl _) (by omega) (by omega) (by omega)
  refine h.mono ?_
  rintro e w' ⟨rfl, rfl⟩
  exact ⟨_, rfl, OwnR.nil' g, g⟩
 obtain ⟨i0, hi, hz0, hz1, hz2⟩ := info_row
 have h : Calls Tryz.prog 171 #[.slice none 0 0, .int .i64 k] w _ := Any8.slices_Grow_grow Tryz.grow171 i0 _ hi hz0 (by rw [hz1]; omega) none 0 0 k [] w (Nat.le_refl _) (by omega) (by rw [hz2]; omega) (by omega) (by simp) (fun _ => rfl) (fun a ha => by cases ha)
 refine h.mono ?_
 rintro e w' ⟨rfl, rfl⟩
 have gg : Gr w0 (w.drew.alloc (.cells ((([] : List Value).toArray ++ Builtin.zeroCells (Value.agg #[.slice none 0 0, .map none]).cells (0 + k - 0) ++ Builtin.zeroCells (Value.agg #[.slice none 0 0, .map none]).cells (grownCap w (0 + k) 0 (Tryz.grow171_ren.t 25) - (0 + k)))) (Tryz.grow171_ren.t 25))) := (g.drew).alloc _
 have ge := grownCap_ge w (0 + k) 0 (Tryz.grow171_ren.t 25)
 have hm := grownCap_le_maxLen w (0 + k) 0 (Tryz.grow171_ren.t 25) (by unfold maxLen; omega)
 refine ⟨_, rfl, ⟨⟨rfl, .inr ⟨w.heap.size, _, _, rfl, g.size, heap_alloc_new w.drew _, Nat.zero_le _, hm, ?_, rfl⟩⟩, gg⟩, gg⟩
 simp only [Array.size_append, List.size_toArray, size_zeroCells, List.length_nil]
 have : (Value.agg #[.slice none 0 0, .map none]).cells.size = 2 := rfl
 rw [this]
 omega
def RetRows (w : World) (L : Tbl SL) (e : Ending) (w' : World) : Prop := ∃ v raw, e = .returned v ∧ OwnR w w' v raw ∧ Dat w w' raw L
theorem scrTAs_concat_any {P : Prop} (h : P := by
  obtain ⟨X, hX, dX⟩ := hr
  obtain ⟨Y, hY, dY⟩ := hr'
  have HR := Lh hX
  have HR' := Lh hY
  have HD := Lh (dX.append dY)
  have B0 := Lh hb0
  have B1 := Lh hb1
  have HN := Lh (show n = X.length ∧ n' = Y.length ∧ n ≤ 1000 ∧ n' ≤ 1000 from ⟨hX.1, hY.1, hn, hn'⟩)
  have s1 : IntKind.i64.wrap ((n : Int) + (n' : Int)) = (n : Int) + (n' : Int) := IntWalk.i64_in _ (by omega)
  have s2 : IntKind.i64.wrap (n : Int) = (n : Int) := IntWalk.i64_in _ (by omega)
  clear hX hY dX dY hb0 hb1 hn hn'
  first | (have z := zS; clear z; go_enter Tryz.func139, Tryz.ntmps139) | (go_enter Tryz.func100, Tryz.ntmps100)
  go_wp2
  go_loopw [3, 11] (fun sz si wr => wr = w ∧ ((si = .int .i64 0 ∧ sz = .int .i64 0) ∨ (si = .int .i64 1 ∧ sz = .int .i64 n) ∨ (si = .int .i64 2 ∧ sz = .int .i64 ((n : Int) + (n' : Int))))) (fun _ si _ => 2 - (intOf si).toNat)
  case atStart => exact ⟨rfl, .inl ⟨rfl, rfl⟩⟩
  case round =>
   obtain ⟨hw, hs⟩ := hrel
   subst hw
   rcases hs with ⟨rfl, rfl⟩ | ⟨rfl, rfl⟩ | ⟨rfl, rfl⟩
   ·have b0 := B0.out
    have z1 : decide ((n : Int) < 0) = false := by simp
    go_wp2_with fail
    go_roundw
    case rel => exact ⟨by trivial, .inr (.inl ⟨rfl, rfl⟩)⟩
    case measure => simp [intOf]
   ·have b1 := B1.out
    have z1 : decide ((n : Int) + (n' : Int) < 0) = false := by rw [decide_eq_false_iff_not]; clear s1 s2; omega
    go_wp2_with fail
    go_roundw
    case rel => exact ⟨by trivial, .inr (.inr ⟨rfl, rfl⟩)⟩
    case measure => simp [intOf]
   have CG := Lh (GrowR_any ((n : Int) + (n' : Int)) (n + n') (by omega) (by have := HN.out; omega) wr wr (Gr.refl wr))
   go_wp2_with ((first | go_at_call 130 | go_at_call 171); (with_reducible refine CG.out.mono ?_); rintro e w1 ⟨v1, rfl, ho1, g1⟩; have OW := Lh ho1; have GW := Lh g1; clear ho1 g1)
   go_loopw [6, 27] (fun sv si wx => (si = .int .i64 0 ∧ OwnR wr wx sv []) ∨ (si = .int .i64 1 ∧ OwnR wr wx sv X) ∨ (si = .int .i64 2 ∧ OwnR wr wx sv (X ++ Y))) (fun _ si _ => 2 - (intOf si).toNat)
   case atStart => exact .inl ⟨rfl, OW.out⟩
   case round =>
    rcases hrel with ⟨rfl, ho⟩ | ⟨rfl, ho⟩ | ⟨rfl, ho⟩
    ·have b0 := ho.2.cell B0.out
     have HO := Lh ho
     have hc := Lh (HR.out.gr ho.2)
     clear ho
     first | (have z := zS; clear z; go_wp2_with (at_builtin; go_must (refine wpList_any_row rfl _ _ 109 rfl Tryz.underlying109 _ [] rfl HO.out a n c X rfl hc.out (by have := HN.out; simp; omega) ?_); intro v2 w2 hown2 _; have H2 := Lh hown2; clear hown2)) | (go_wp2_with (at_builtin; go_must (refine wpList_any_row rfl _ _ 65 rfl Tryz.underlying65 _ [] rfl HO.out a n c X rfl hc.out (by have := HN.out; simp; omega) ?_); intro v2 w2 hown2 _; have H2 := Lh hown2; clear hown2))
     go_roundw
     case rel => exact .inr (.inl ⟨rfl, by simpa using H2.out⟩)
     case measure => simp [intOf]
    ·have b1 := ho.2.cell B1.out
     have HO := Lh ho
     have hc := Lh (HR'.out.gr ho.2)
     clear ho
     first | (have z := zS; clear z; go_wp2_with (at_builtin; go_must (refine wpList_any_row rfl _ _ 109 rfl Tryz.underlying109 _ X rfl HO.out a' n' c' Y rfl hc.out (by have := HN.out; omega) ?_); intro v2 w2 hown2 _; have H2 := Lh hown2; clear hown2)) | (go_wp2_with (at_builtin; go_must (refine wpList_any_row rfl _ _ 65 rfl Tryz.underlying65 _ X rfl HO.out a' n' c' Y rfl hc.out (by have := HN.out; omega) ?_); intro v2 w2 hown2 _; have H2 := Lh hown2; clear hown2))
     go_roundw
     case rel => exact .inr (.inr ⟨rfl, H2.out⟩)
     case measure => simp [intOf]
    have HO := Lh ho
    clear ho
    go_wp2_with fail
    go_ret
    exact ⟨_, _, rfl, HO.out, HD.out.gr HO.out.2⟩) : P := h
theorem concat_any (bb n c n' c' : Nat) (a a' : Option Addr) (T U : Tbl SL) (w : World) (hn : n ≤ 1000) (hn' : n' ≤ 1000) (hr : RdT w w a n c T) (hr' : RdT w w a' n' c' U) (hb0 : w.cell? ⟨bb, 0, none⟩ = some (.slice a n c)) (hb1 : w.cell? ⟨bb, 1, none⟩ = some (.slice a' n' c')) :
  Calls Tryz.prog 139 #[.slice (some ⟨bb, 0, none⟩) 2 2] w (RetRows w (T ++ U)) := by have zS := trivial; exact scrTAs_concat_any
theorem join1_snoc (mul : SL → SL → SL) (x : List Int × SL) (v : Tbl SL) (y : List Int × SL) : join1 mul x (v ++ [y]) = join1 mul x v ++ (if x.1.getD 0 0 = y.1.getD 0 0 then [(x.1 ++ y.1.drop 1, mul x.2 y.2)] else []) := by
 unfold join1
 rw [List.filter_append, List.map_append]
 congr 1
 split
 ·rename_i h
  rw [List.filter_cons, if_pos (by simpa using h)]; rfl
 rename_i h
 have : List.filter (fun y => decide (x.1.getD 0 0 = y.1.getD 0 0)) [y] = [] := by
  rw [List.filter_cons, if_neg (by simpa using h)]; rfl
 rw [this]; rfl
theorem joinL_snoc (mul : SL → SL → SL) (u v : Tbl SL) (x : List Int × SL) : joinL mul (u ++ [x]) v = joinL mul u v ++ join1 mul x v := by simp [joinL]
theorem cut_more {A : Tbl SL} {z : List Int × SL} (h : (A.take 61).length ≤ 60) : A.take 61 ++ [z] = (A ++ [z]).take 61 := by
 rw [List.length_take] at h
 rw [List.take_of_length_le (by omega), List.take_of_length_le (by simp; omega)]
theorem cut_full {A B : Tbl SL} (h : ¬ (A.take 61).length ≤ 60) : A.take 61 = (A ++ B).take 61 := by
 rw [List.length_take] at h
 rw [List.take_append_of_le_length (by omega)]
theorem scrTBs_wpIn_app_row {P : Prop} (h : P := by
  obtain ⟨i0, hi, hz0, hz1, hz2⟩ := info_row
  first
  | have z := zS
    clear z
    obtain ⟨v', w', hrun, r1, r2, _⟩ := run_append_own (P := Tryz.prog) w w0.heap.size t o.type 121 i0 _ 2 32 ht hi hz0 hz1 hz2 rfl (by decide) v raw.length (pkr raw) hown.1 ⟨g, 0, none⟩ 1 1 [.slice r.a r.n r.c, .map (some r.y)] rfl (fun j u hu => by
     rw [add_flat rfl]
     match j, hu with
     | 0, hu => simp at hu; subst hu; exact hg.1
     | 1, hu => simp at hu; subst hu; exact hg.2
     | j + 2, hu => simp at hu) (by simp [Value.oneCell']) (by unfold maxLen; omega) (by omega) hown.2.size
  | obtain ⟨v', w', hrun, r1, r2, _⟩ := run_append_own (P := Tryz.prog) w w0.heap.size t o.type 98 i0 _ 2 32 ht hi hz0 hz1 hz2 rfl (by decide) v raw.length (pkr raw) hown.1 ⟨g, 0, none⟩ 1 1 [.slice r.a r.n r.c, .int .i64 r.y] rfl (fun j u hu => by
     rw [add_flat rfl]
     match j, hu with
     | 0, hu => simp at hu; subst hu; exact hg.1
     | 1, hu => simp at hu; subst hu; exact hg.2
     | j + 2, hu => simp at hu) (by simp [Value.oneCell']) (by unfold maxLen; omega) (by omega) hown.2.size
  unfold Oper.wpIn
  refine ⟨?_, ?_⟩
  ·simp [Oper.about, ho, resolve, Target.leads, Sem.run_pure]
  rw [Oper.semAt_plain F _ _ (by rw [ho]; intro c hc'; cases hc')]
  simp [execOp, ho, resolve, invoke, builtin, hs, hx, hrun, Result.andThen]
  refine h v' w' ⟨?_, hown.2.grown r2 fun k hk => (hown.1.lt k hk).1⟩ r2
  rw [pkr_append, List.length_append]
  exact r1) : P := h
theorem wpIn_app_row {F : Fence} {n : Nat} {o : Oper} {a : Act} {K : Act → World → Prop} {Q : Exit → Act → World → Prop} (s x : Operand) (t : TypeId)
  (ho : o.op = .call { callee := .builtin .append, args := #[s, x], argTypes := #[t, t] }) (ht : Tryz.prog.underlying t = some (.slice 121))
  {w0 w : World} (v : Value) (raw : List Rw) (hs : a.eval s = v) (hown : OwnR w0 w v raw)
  (g : Nat) (r : Rw) (hx : a.eval x = .slice (some ⟨g, 0, none⟩) 1 1) (hg : w.cell? ⟨g, 0, none⟩ = some (.slice r.a r.n r.c) ∧ w.cell? ⟨g, 1, none⟩ = some (.map (some r.y))) (hk : raw.length < 999999)
  (h : ∀ v' w', OwnR w0 w' v' (raw ++ [r]) → w.grownBy w' v.ownBlock → K (a.put o.dst v') w') : o.wpIn F n Tryz.prog a w K Q := by have zS := trivial; exact scrTBs_wpIn_app_row
theorem Rd3.grown {w0 w w' : World} {v : Value} {raw : List Rw} {x : Rw} {L : List Int} {d : SL} (h : Rd3 w x.a x.n x.c L) (ho : Old EW w 3 x.n x.a) (hp : Rep w x.y d) (hO : OwnR w0 w v raw) (g : w.grownBy w' v.ownBlock) : Rd3 w' x.a x.n x.c L ∧ Old EW w' 3 x.n x.a ∧ Rep w' x.y d := by
 rcases hO.blk with ⟨rfl, _⟩ | ⟨b, c', cur, rfl, _, _, hb, _, hg, _⟩
 ·have k : Gr w w' := (Gr.refl w).grown g fun k hk => by cases hk
  exact ⟨h.gr k, ho.gr k, hp.gr k⟩
 have hf := ho.off (show EW.heap.size ≤ b from Nat.zero_le _) hg (by decide)
 exact ⟨h.wr g hf, ho.wr g hf, hp.wr hg g⟩
def BoxR (w : World) (b : Nat) (x : Rw) : Prop := ∃ fz, w.heap[b]? = some (.cells #[.slice x.a x.n x.c, .map (some x.y)] 121 fz)
theorem BoxR.new {w w1 : World} {x : Rw} (h : w.alloc (.cells #[.slice x.a x.n x.c, .map (some x.y)] 121) = w1) : BoxR w1 w.heap.size x := by
 subst h
 exact ⟨_, heap_alloc_new w _⟩
theorem BoxR.lt {w : World} {b : Nat} {x : Rw} (h : BoxR w b x) : b < w.heap.size := by
 obtain ⟨fz, h⟩ := h
 rcases Nat.lt_or_ge b w.heap.size with q | q
 ·exact q
 rw [Array.getElem?_eq_none q] at h; cases h
theorem BoxR.gr {w w' : World} {b : Nat} {x : Rw} (h : BoxR w b x) (g : Gr w w') : BoxR w' b x := by
 have hl := h.lt
 obtain ⟨fz, h⟩ := h
 exact ⟨fz, by rw [Below.block g b hl]; exact h⟩
theorem BoxR.grown {w w' : World} {b : Nat} {x : Rw} {row : Option Nat} (h : BoxR w b x) (g : w.grownBy w' row) (hne : row ≠ some b) : BoxR w' b x := by
 have hl := h.lt
 obtain ⟨fz, h⟩ := h
 exact ⟨fz, by rw [g.block b hl (fun e => hne e.symm)]; exact h⟩
theorem BoxR.cells {w : World} {b : Nat} {x : Rw} (h : BoxR w b x) : w.cell? ⟨b, 0, none⟩ = some (.slice x.a x.n x.c) ∧ w.cell? ⟨b, 1, none⟩ = some (.map (some x.y)) := by
 obtain ⟨fz, h⟩ := h
 simp [World.cell?, h]
theorem BoxR.apart {w0 w w' : World} {b : Nat} {x z : Rw} {v v' : Value} {raw : List Rw} (h : BoxR w b x) (g : w.grownBy w' v.ownBlock) (hne : v.ownBlock ≠ some b) (ho : OwnR w0 w' v' (raw ++ [z])) (hz : z.a ≠ x.a) : v'.ownBlock ≠ some b := fun e => by
 obtain ⟨fz, hb⟩ := h.grown g hne
 rcases ho.1.2 with ⟨rfl, _⟩ | ⟨g', cap, cur, rfl, _, hg, hn, _, hs, _⟩
 ·cases e
 have e' : g' = b := Option.some.inj e
 subst e'
 rw [hg] at hb
 simp only [Option.some.injEq, Obj.cells.injEq] at hb
 have hc := hb.1
 rw [hc] at hs
 simp at hs hn
 have hr : raw = [] := List.length_eq_zero_iff.1 (by omega)
 subst hr
 obtain ⟨k, _⟩ := OwnR.at (i := 0) (x := z) ho rfl
 simp only [Nat.zero_mul, World.cell?, hg, hc] at k
 simp at k
 exact hz k.1.symm
theorem step64 {j n : Nat} (h : j < n) (hn : n ≤ 1000) : wrap64 ((j : Int) + 1) = ((j + 1 : Nat) : Int) := by rw [IntWalk.wrap64_in _ (by omega)]; omega
theorem fall {j n : Nat} (h : j < n) : n - (intOf (.int .i64 ((j + 1 : Nat) : Int))).toNat < n - (intOf (.int .i64 (j : Int))).toNat := by simp only [intOf]; omega
def JoinOk (R : Rg SL) (G : SL → Prop) (T : Tbl SL) : Prop := ∀ x ∈ T, 1 ≤ x.1.length ∧ x.1.length ≤ 100 ∧ G x.2 ∧ R.stays x.2 = true ∧ R.fits x.2 = true
theorem scrTBs_by_any {P : Prop} (h : P := by
  obtain ⟨X, hX, dX⟩ := hr
  obtain ⟨Y, hY, dY⟩ := hr'
  unfold RF.val
  first | (have z := zS; clear z; obtain ⟨w1, hw1⟩ : ∃ w1, w.alloc (.cells #[.func (.func F.p) #[] F.pb, .func (.func F.t) #[] F.tb, .func (.func F.s) #[] F.sb, .func (.func F.f) #[] F.fb] 117) = w1 := ⟨_, rfl⟩) | (obtain ⟨w1, hw1⟩ : ∃ w1, w.alloc (.cells #[.func (.func F.p) #[] F.pb, .func (.func F.t) #[] F.tb, .func (.func F.s) #[] F.sb, .func (.func F.f) #[] F.fb] 63) = w1 := ⟨_, rfl⟩)
  have g1 : Gr w w1 := hw1 ▸ (Gr.refl w).alloc _
  have HB1 := Lh (BoxF.new hw1)
  have HX := Lh (hX.gr g1)
  have HY := Lh (hY.gr g1)
  have HDX := Lh (dX.gr g1)
  have HDY := Lh (dY.gr g1)
  have HF := Lh hF
  have HT := Lh hT
  have HU := Lh hU
  have HG1 := Lh g1
  have HN := Lh (show n ≤ 1000 ∧ n' ≤ 1000 ∧ n = T.length ∧ n' = U.length from ⟨hn, hn', hX.1.trans dX.1, hY.1.trans dY.1⟩)
  clear hX hY dX dY hF hT hU g1 hn hn'
  first | (have z := zS; clear z; go_enter Tryz.func140, Tryz.ntmps140) | (go_enter Tryz.func101, Tryz.ntmps101)
  generalize hbx : w.heap.size = bx at *
  go_wp2_with fail
  go_loopw [7, 14] (fun vo si wr => ∃ (i : Nat) (rawO : List Rw), si = .int .i64 i ∧ Hid (i ≤ n) ∧ Hid (OwnR w1 wr vo rawO) ∧ Hid (Dat w wr rawO ((joinL R.mul (T.take i) U).take 61))) (fun _ si _ => n - (intOf si).toNat)
  case atStart => exact ⟨0, [], rfl, Lh (Nat.zero_le _), Lh (OwnR.nil w1), Lh (Dat.nil _ _)⟩
  case round =>
   obtain ⟨i, rawO, rfl, Hi, HO, HDO⟩ := hrel
   have hi := Hi.out
   have hN := HN.out
   by_cases hlt : i < n
   ·have i1 : (i : Int) < (n : Int) := by omega
    obtain ⟨b, o, x, rfl, hx, c1, c2⟩ := (HX.out.gr HO.out.2).at hlt
    obtain ⟨r, hr, xr, xo, xp⟩ := (HDX.out.gr HO.out.2).at hx
    have hrT := HT.out r (List.mem_of_getElem? hr)
    have HTk := Lh (show T.take (i + 1) = T.take i ++ [r] by rw [List.take_add_one, hr]; rfl)
    first | (have z := zS; clear z; obtain ⟨wA, hwA⟩ : ∃ wA, wr.alloc (.cells #[.slice x.a x.n x.c, .map (some x.y)] 121) = wA := ⟨_, rfl⟩) | (obtain ⟨wA, hwA⟩ : ∃ wA, wr.alloc (.cells #[.slice x.a x.n x.c, .int .i64 x.y] 98) = wA := ⟨_, rfl⟩)
    have gA : Gr wr wA := hwA ▸ (Gr.refl wr).alloc _
    obtain ⟨zx0, zx1⟩ := boxr' hwA rfl
    have HOA := Lh (HO.out.gr gA)
    have HDA := Lh (HDO.out.gr gA)
    first | (have z := zS; clear z; have HXr := Lh (show Rd3 wA x.a x.n x.c r.1 ∧ Old EW wA 3 x.n x.a ∧ Rep wA x.y r.2 from ⟨xr.gr gA, xo.gr gA, xp.gr gA⟩)) | (have HXr := Lh (show Rd3 wA x.a x.n x.c r.1 ∧ Old w wA 3 x.n x.a ∧ Rep wA x.y r.2 from ⟨xr.gr gA, xo.gr gA, xp.gr gA⟩))
    have HZx := Lh (show BoxR wA wr.heap.size ⟨x.a, x.n, x.c, x.y⟩ from BoxR.new hwA)
    obtain ⟨ao9, co9, rfl, _⟩ := HO.out.rd
    have HVn := Lh (show (Value.slice ao9 rawO.length co9).ownBlock ≠ some wr.heap.size from fun e => by have := (HO.out.1.lt _ e).2; omega)
    have HL := Lh hlt
    have HrT := Lh hrT
    clear hx hr xr xo xp gA hi hN hlt HO HDO hrT zx0 zx1
    obtain ⟨xa, xn, xc, xy⟩ := x
    simp only at c1 c2 hwA HZx HXr
    go_wp2_with fail
    clear c1 c2 hwA
    generalize wr.heap.size = b9 at *
    first | (have z := zS; clear z; go_loopw [7, 20] (fun vo sj wr => ∃ (j : Nat) (rawO : List Rw), sj = .int .i64 j ∧ Hid (j ≤ n') ∧ Hid (OwnR w1 wr vo rawO) ∧ Hid (Dat w wr rawO ((joinL R.mul (T.take i) U ++ join1 R.mul r (U.take j)).take 61)) ∧ Hid (BoxR wr b9 ⟨xa, xn, xc, xy⟩ ∧ vo.ownBlock ≠ some b9) ∧ Hid (Rd3 wr xa xn xc r.1 ∧ Old EW wr 3 xn xa ∧ Rep wr xy r.2)) (fun _ sj _ => n' - (intOf sj).toNat)) | (go_loopw [7, 20] (fun vo sj wr => ∃ (j : Nat) (rawO : List Rw), sj = .int .i64 j ∧ Hid (j ≤ n') ∧ Hid (OwnR w1 wr vo rawO) ∧ Hid (Dat w wr rawO ((joinL R.mul (T.take i) U ++ join1 R.mul r (U.take j)).take 61)) ∧ Hid (BoxR wr b9 ⟨xa, xn, xc, xy⟩ ∧ vo.ownBlock ≠ some b9) ∧ Hid (Rd3 wr xa xn xc r.1 ∧ Old w wr 3 xn xa ∧ Rep wr xy r.2)) (fun _ sj _ => n' - (intOf sj).toNat))
    case atStart => exact ⟨0, rawO, rfl, Lh (Nat.zero_le _), HOA, Lh (by have := HDA.out; simpa [join1] using this), Lh ⟨HZx.out, HVn.out⟩, HXr⟩
    case round =>
     clear HOA HDA HZx HXr HVn
     obtain ⟨j, rawO, rfl, Hj, HO, HDO, HZx, HXr⟩ := hrel
     have hj := Hj.out
     have hN := HN.out
     obtain ⟨ao, co, rfl, _⟩ := HO.out.rd
     have hm := HDO.out.1
     by_cases hlt : j < n'
     ·have j1 : (j : Int) < (n' : Int) := by omega
      obtain ⟨b', o', y, rfl, hy, d1, d2⟩ := (HY.out.gr HO.out.2).at hlt
      obtain ⟨s, hs, yr, yo, yp⟩ := (HDY.out.gr HO.out.2).at hy
      have hsU := HU.out s (List.mem_of_getElem? hs)
      have HUk := Lh (show join1 R.mul r (U.take (j + 1)) = join1 R.mul r (U.take j) ++ (if r.1.getD 0 0 = s.1.getD 0 0 then [(r.1 ++ s.1.drop 1, R.mul r.2 s.2)] else []) by rw [← join1_snoc, List.take_add_one, hs]; rfl)
      first | (have z := zS; clear z; obtain ⟨wB, hwB⟩ : ∃ wB, wr.alloc (.cells #[.slice y.a y.n y.c, .map (some y.y)] 121) = wB := ⟨_, rfl⟩) | (obtain ⟨wB, hwB⟩ : ∃ wB, wr.alloc (.cells #[.slice y.a y.n y.c, .int .i64 y.y] 98) = wB := ⟨_, rfl⟩)
      have gB : Gr wr wB := hwB ▸ (Gr.refl wr).alloc _
      obtain ⟨zy0, zy1⟩ := boxr' hwB rfl
      obtain ⟨zx0, zx1⟩ := HZx.out.1.cells
      replace zx0 := gB.cell zx0
      replace zx1 := gB.cell zx1
      have HOB := Lh (HO.out.gr gB)
      have HDB := Lh (HDO.out.gr gB)
      first | (have z := zS; clear z; have HXB := Lh (show Rd3 wB xa xn xc r.1 ∧ Old EW wB 3 xn xa ∧ Rep wB xy r.2 from ⟨HXr.out.1.gr gB, HXr.out.2.1.gr gB, HXr.out.2.2.gr gB⟩)) | (have HXB := Lh (show Rd3 wB xa xn xc r.1 ∧ Old w wB 3 xn xa ∧ Rep wB xy r.2 from ⟨HXr.out.1.gr gB, HXr.out.2.1.gr gB, HXr.out.2.2.gr gB⟩))
      have HYB := Lh (show Rd3 wB y.a y.n y.c s.1 ∧ Rep wB y.y s.2 from ⟨yr.gr gB, yp.gr gB⟩)
      have HZB := Lh (And.intro (HZx.out.1.gr gB) HZx.out.2)
      have HRB := Lh (HB1.out.gr (HO.out.2.trans gB))
      have HLj := Lh hlt
      have HsU := Lh hsU
      obtain ⟨bx0, ox, rfl, hvx⟩ := HXB.out.1.2.2.2.2.at (show 0 < xn by have := HXB.out.1.1; have := HrT.out.1; omega)
      have vx := hvx 0 (by have := HXB.out.1.1; have := HrT.out.1; omega)
      obtain ⟨ya, yn, yc, yy⟩ := y
      simp only at d1 d2 hwB zy0 zy1 HYB
      obtain ⟨by0, oy, rfl, hvy⟩ := HYB.out.1.2.2.2.2.at (show 0 < yn by have := HYB.out.1.1; have := HsU.out.1; omega)
      have vy := hvy 0 (by have := HYB.out.1.1; have := HsU.out.1; omega)
      have k1 : 0 < xn := by have := HXB.out.1.1; have := HrT.out.1; omega
      have k2 : 0 < yn := by have := HYB.out.1.1; have := HsU.out.1; omega
      rw [Nat.add_zero] at vx vy
      have k4 : (1 : Int) ≤ (yn : Int) := by omega
      have HVx := Lh hvx
      have HVy := Lh hvy
      have HM := Lh hm
      have hm0 := HM
      have HMl := Lh (show rawO.length ≤ 61 by rw [hm, List.length_take]; omega)
      clear hy hs yr yo yp gB hj hN hlt HO HDO HXr HZx hsU hvx hvy hm
      have HIv := Lh (show (iv r.1 0 = iv s.1 0 ↔ r.1.getD 0 0 = s.1.getD 0 0) from Iff.rfl)
      by_cases hhd : iv r.1 0 = iv s.1 0
      focus
       rw [if_pos (HIv.out.1 hhd)] at HUk
       by_cases h60 : rawO.length ≤ 60
       ·have h60i : (rawO.length : Int) ≤ 60 := by omega
        have HH6 := Lh h60
        clear h60
        generalize iv r.1 0 = hx0 at *
        generalize iv s.1 0 = hy0 at *
        subst hhd
        generalize hmm : rawO.length = m at *
        have HMm := Lh hmm
        clear hmm
        go_wp2_with fail
        refine Hg (fun w' => Gr wB w') 14 ?_
        have hS : Gr wB wB.drew := (Gr.refl wB).drew
        refine H12 0 1 2 3 4 5 6 7 8 9 10 11 (c4 zx0 zy0 vx vy) hS ?_; refine H2 12 13 (c4 zx0 zy0 vx vy) hS ?_
        refine Hd ?_
        obtain ⟨wX, hwX⟩ : ∃ wX, wB.drew = wX := ⟨_, rfl⟩
        rw [hwX] at hS ⊢
        clear d1 d2 hwX hwB
        replace zx0 := hS.cell zx0
        replace zx1 := hS.cell zx1
        replace zy0 := hS.cell zy0
        replace zy1 := hS.cell zy1
        obtain ⟨_, bt, _⟩ := HRB.out.gr hS
        have HOX := Lh (HOB.out.gr hS)
        have HDX := Lh (HDB.out.gr hS)
        have HCC := Lh (fun W (k : Gr wX W) (bb : Nat) (hcc : W.cell? ⟨bb, 0, none⟩ = some (.slice (some ⟨bx0, ox, none⟩) xn xc) ∧ W.cell? ⟨bb, 1, none⟩ = some (.slice (if yc = 1 then some ⟨by0, oy, none⟩ else some ⟨by0, oy + 1, none⟩) (yn - 1) (yc - 1))) => Concat3_any bx0 ox bb xn xc (yn - 1) (yc - 1) (if yc = 1 then some ⟨by0, oy, none⟩ else some ⟨by0, oy + 1, none⟩) r.1 (s.1.drop 1) W k1 HXB.out.1.1 (by rw [List.length_drop]; have := HYB.out.1.1; omega) (by have := HXB.out.1.1; have := HrT.out.2.1; omega) (by have := HYB.out.1.1; have := HsU.out.2.1; omega) (fun p hp => (hS.trans k).cell (HVx.out p hp)) (by
         by_cases h1 : yc = 1
         ·rw [if_pos h1]
          have := HYB.out.1.2.1
          exact ⟨by0, oy, rfl, fun p hp => by omega⟩
         rw [if_neg h1]
         refine ⟨by0, oy + 1, rfl, fun p hp => ?_⟩
         have := (hS.trans k).cell (HVy.out (p + 1) (by omega))
         rw [show oy + 1 + p = oy + (p + 1) by omega, this]
         simp [iv, List.getD_eq_getElem?_getD]) hcc.1 hcc.2)
        have CT := Lh (fun W (k : Gr wX W) => HF.out.times W xy yy r.2 s.2 (((HG1.out.trans HOB.out.2).trans hS).trans k) ((HXB.out.2.2.gr hS).gr k) ((HYB.out.2.gr hS).gr k) HrT.out.2.2.1 HsU.out.2.2.1 HrT.out.2.2.2.1 HsU.out.2.2.2.1 HrT.out.2.2.2.2 HsU.out.2.2.2.2)
        first | (have z := zS; clear z; have HXX := Lh (show Rd3 wX (some ⟨bx0, ox, none⟩) xn xc r.1 ∧ Old EW wX 3 xn (some ⟨bx0, ox, none⟩) ∧ Rep wX xy r.2 from ⟨HXB.out.1.gr hS, HXB.out.2.1.gr hS, HXB.out.2.2.gr hS⟩)) | (have HXX := Lh (show Rd3 wX (some ⟨bx0, ox, none⟩) xn xc r.1 ∧ Old w wX 3 xn (some ⟨bx0, ox, none⟩) ∧ Rep wX xy r.2 from ⟨HXB.out.1.gr hS, HXB.out.2.1.gr hS, HXB.out.2.2.gr hS⟩))
        have HZX := Lh (show BoxR wX b9 ⟨some ⟨bx0, ox, none⟩, xn, xc, xy⟩ ∧ (Value.slice ao m co).ownBlock ≠ some b9 from ⟨HZB.out.1.gr hS, HZB.out.2⟩)
        have HLt := Lh (show bx0 < wX.heap.size from World.block_lt_of_cell? wX _ (hS.cell vx))
        have hcf := HF.out.et
        clear hS HXB HYB HVx HVy vx vy
        go_wp2_with fail
        refine (wpIn_wide (n := 3)).1 ?_
        refine wpIn_region_mark (fun w' => Gr wX w') 17 19 (by kernel_rfl) rfl rfl ?_
        have hS : Gr wX wX.drew := (Gr.refl wX).drew
        refine Mk 0 rfl (c5 zx0 zx1 zy0 zy1 bt) hS ?_; refine Mk 1 rfl (c5 zx0 zx1 zy0 zy1 bt) hS ?_; refine Mk 2 rfl (c5 zx0 zx1 zy0 zy1 bt) hS ?_; refine Mk 3 rfl (c5 zx0 zx1 zy0 zy1 bt) hS ?_; refine Mk 4 rfl (c5 zx0 zx1 zy0 zy1 bt) hS ?_; refine Mk 5 rfl (c5 zx0 zx1 zy0 zy1 bt) hS ?_; refine Mk 8 rfl (c5 zx0 zx1 zy0 zy1 bt) hS ?_; refine Mk 9 rfl (c5 zx0 zx1 zy0 zy1 bt) hS ?_; refine Mk 10 rfl (c5 zx0 zx1 zy0 zy1 bt) hS ?_; refine Mk 11 rfl (c5 zx0 zx1 zy0 zy1 bt) hS ?_; refine Mk 12 rfl (c5 zx0 zx1 zy0 zy1 bt) hS ?_; refine Mk 13 rfl (c5 zx0 zx1 zy0 zy1 bt) hS ?_
        refine wpAnyMIn_ready [6] (by kernel_rfl) (by simp) ?_
        refine AllMIn.cons rfl (by rfl) (fun K hK => ?_) AllMIn.nil
        go_simp
        obtain ⟨wY, hwY⟩ : ∃ wY, (wX.alloc (.cells #[.slice (some ⟨bx0, ox, none⟩) xn xc, .slice (if yc = 1 then some ⟨by0, oy, none⟩ else some ⟨by0, oy + 1, none⟩) (yn - 1) (yc - 1)] 23)).drew = wY := ⟨_, rfl⟩
        have hS : Gr wX wY := hwY ▸ ((Gr.refl wX).alloc _).drew
        have hcc : wY.cell? ⟨wX.heap.size, 0, none⟩ = some (.slice (some ⟨bx0, ox, none⟩) xn xc) ∧ wY.cell? ⟨wX.heap.size, 1, none⟩ = some (.slice (if yc = 1 then some ⟨by0, oy, none⟩ else some ⟨by0, oy + 1, none⟩) (yn - 1) (yc - 1)) := by rw [← hwY]; exact boxr wX _ _ 23
        rw [hwY]
        clear hwY
        have CC := Lh (HCC.out wY hS _ hcc)
        refine hK.out _ _ (fun _ => hS) ?_
        clear hK K hcc
        refine wpAnyMIn_ready [7] (by kernel_rfl) (by simp) ?_
        refine AllMIn.cons rfl (by rfl) (fun K hK => ?_) AllMIn.nil
        go_simp
        refine ⟨trivial, ?_⟩
        refine (callsIn_wide.2 CC.out).mono ?_
        rintro e wZ ⟨bN, cN, cur, fz, he, l1, l2, l3, l4, l5, gZ, _⟩
        generalize hlN : (r.1 ++ s.1.drop 1).length = lN at he l1 l3
        subst he
        have HNr := Lh (And.intro l1 (And.intro l2 (And.intro l3 (And.intro l4 hlN.symm))))
        have HNb := Lh (show wX.heap.size ≤ bN from Nat.le_trans hS.size l5)
        have hS : Gr wX wZ := hS.trans gZ
        refine hK.out _ _ (fun _ => hS) ?_
        clear hK K gZ l1 l2 l3 l4 l5 CC hlN
        refine wpAnyMIn_ready [14] (by kernel_rfl) (by simp) ?_
        refine AllMIn.cons rfl (by rfl) (fun K hK => ?_) AllMIn.nil
        go_simp
        refine ⟨trivial, ?_⟩
        refine (callsIn_wide.2 (CT.out _ hS)).mono ?_
        rintro e wU ⟨yyN, rfl, hrep, gU⟩
        have HRp := Lh hrep
        have HGU := Lh gU
        have hS : Gr wX wU := hS.trans gU
        refine hK.out _ _ (fun _ => hS) ?_
        clear hK K gU hrep
        refine Mk 15 rfl (fun _ _ => trivial) hS ?_
        refine wpAnyMIn_ready [16] (by kernel_rfl) (by simp) ?_
        refine AllMIn.cons rfl (by rfl) (fun K hK => ?_) AllMIn.nil
        go_simp
        first | (have z := zS; clear z; obtain ⟨wV, hwV⟩ : ∃ wV, (wU.alloc (.cells #[.slice (some ⟨bN, 0, none⟩) lN cN, .map (some yyN)] 121)) = wV := ⟨_, rfl⟩) | (obtain ⟨wV, hwV⟩ : ∃ wV, (wU.alloc (.cells #[.slice (some ⟨bN, 0, none⟩) lN cN, .int .i64 yyN] 98)) = wV := ⟨_, rfl⟩)
        have hgV : Gr wU wV := hwV ▸ (Gr.refl wU).alloc _
        have hcc := boxr' hwV rfl
        rw [hwV]
        have HcV := Lh hcc
        have HgV := Lh hgV
        have hS : Gr wX wV := hS.trans hgV
        clear hwV hcc hgV
        refine hK.out _ _ (fun _ => hS) ?_
        clear hK K
        refine wpAnyMIn_ready [17] (by kernel_rfl) (by simp) ?_
        refine AllMIn.cons rfl (by rfl) (fun K hK => ?_) AllMIn.nil
        first | (have z := zS; clear z; refine wpIn_app_row _ _ 108 rfl Tryz.underlying108 _ rawO rfl (HOX.out.gr hS) _ ⟨some ⟨bN, 0, none⟩, lN, cN, yyN⟩ rfl HcV.out (by have := HMl.out; have := HMm.out; omega) ?_) | (refine wpIn_app_row _ _ 64 rfl Tryz.underlying64 _ rawO rfl (HOX.out.gr hS) _ ⟨some ⟨bN, 0, none⟩, lN, cN, yyN⟩ rfl HcV.out (by have := HMl.out; have := HMm.out; omega) ?_)
        intro v3 w3 hown3 hg3
        have HO3 := Lh hown3
        have HX3 := Lh (Rd3.grown (x := ⟨some ⟨bx0, ox, none⟩, xn, xc, xy⟩) (v := .slice ao m co) (HXX.out.1.gr hS) (HXX.out.2.1.gr hS) (HXX.out.2.2.gr hS) (OwnR.base (HOX.out.gr hS) HG1.out) hg3)
        have HZ3 := Lh (show BoxR w3 b9 ⟨some ⟨bx0, ox, none⟩, xn, xc, xy⟩ ∧ v3.ownBlock ≠ some b9 from ⟨(HZX.out.1.gr hS).grown hg3 HZX.out.2, BoxR.apart (HZX.out.1.gr hS) hg3 HZX.out.2 hown3 (fun e => by
         simp only [Option.some.injEq, Addr.mk.injEq] at e
         have h1 := HLt.out
         have h2 := HNb.out
         omega)⟩)
        have HD3 := Lh ((((HDX.out.gr hS).snoc (x := ⟨some ⟨bN, 0, none⟩, lN, cN, yyN⟩) (r := (r.1 ++ s.1.drop 1, R.mul r.2 s.2)) (show Rd3 wV _ _ _ _ from ⟨HNr.out.2.2.2.2, HNr.out.1, HNr.out.2.1, (fun k => by cases k), ((HNr.out.2.2.1.gr HGU.out).gr HgV.out)⟩) (Old.gr (Old.gr (.inr fun ad ha => by obtain rfl := Option.some.inj ha; exact .inr ⟨_, _, HNr.out.2.2.2.1⟩) HGU.out) HgV.out) ((HRp.out.gr HgV.out))).grown (v := .slice ao m co) (OwnR.base (HOX.out.gr hS) HG1.out) hg3))
        refine hK.out _ _ (fun h => absurd h (by decide)) ?_
        clear hK K hown3 hg3 hS
        refine wpAnyMIn_ready [18] (by kernel_rfl) (by simp) ?_
        refine AllMIn.cons rfl (by rfl) (fun K hK => ?_) AllMIn.nil
        go_simp
        refine hK.out _ _ (fun h => absurd h (by decide)) ?_
        clear hK K
        refine wpAnyMIn_done (by kernel_rfl) ?_ _
        have e3 := step64 HLj.out HN.out.2.1
        clear h60i j1 i1 k1 k2 k4
        go_wp2_with fail
        go_roundw
        case rel => exact ⟨j + 1, _, by first | (rw [e3]) | rfl | simp, Lh (Nat.succ_le_of_lt HLj.out), HO3, Lh (by
         have h0 := HD3.out
         rw [cut_more (by have := HMm.out; have := HM.out; have := HH6.out; omega)] at h0
         rw [HUk.out, ← List.append_assoc]; exact h0), HZ3, HX3⟩
        case measure => first | (rw [e3]; exact fall HLj.out) | exact fall HLj.out
       have h60i : ¬ (rawO.length : Int) ≤ 60 := by omega
       have HFull := Lh (show (joinL R.mul (T.take i) U ++ join1 R.mul r (U.take (j + 1))).take 61 = (joinL R.mul (T.take i) U ++ join1 R.mul r (U.take j)).take 61 by
        rw [HUk.out, ← List.append_assoc]
        exact (cut_full (by rw [← hm0.out]; exact h60)).symm)
       clear h60
       generalize iv r.1 0 = hx0 at *
       generalize iv s.1 0 = hy0 at *
       subst hhd
       generalize hmm : rawO.length = m at *
       have HMm := Lh hmm
       clear hmm
       go_wp2_with fail
       refine Hg (fun w' => Gr wB w') 14 ?_
       have hS : Gr wB wB.drew := (Gr.refl wB).drew
       refine H12 0 1 2 3 4 5 6 7 8 9 10 11 (c4 zx0 zy0 vx vy) hS ?_; refine H2 12 13 (c4 zx0 zy0 vx vy) hS ?_
       refine Hd ?_
       have HOX := Lh (HOB.out.gr hS)
       have HDX := Lh (HDB.out.gr hS)
       have HZX := Lh (And.intro (HZB.out.1.gr hS) HZB.out.2)
       have HXX := Lh (And.intro (HXB.out.1.gr hS) (And.intro (HXB.out.2.1.gr hS) (HXB.out.2.2.gr hS)))
       have HUj := Lh (HFull.out)
       clear hS HXB HYB HVx HVy vx vy HOB HDB HZB HRB d1 d2 hwB zx0 zx1 zy0 zy1
       have e3 := step64 HLj.out HN.out.2.1
       clear j1 i1 k1 k2 k4
      rotate_left
      focus
       rw [if_neg (fun h => hhd (HIv.out.2 h)), List.append_nil] at HUk
       have hdb : (iv r.1 0 == iv s.1 0) = false := by rw [beq_eq_false_iff_ne]; exact hhd
       have hdd : decide (iv r.1 0 = iv s.1 0) = false := decide_eq_false hhd
       generalize iv r.1 0 = hx0 at *
       generalize iv s.1 0 = hy0 at *
       go_wp2_with fail
       refine Hg (fun w' => Gr wB w') 14 ?_
       have hS : Gr wB wB.drew := (Gr.refl wB).drew
       refine H5 0 1 2 3 4 (c4 zx0 zy0 vx vy) hS ?_; refine H5 5 6 7 8 9 (c4 zx0 zy0 vx vy) hS ?_; refine Hs2 10 11 hS ?_; refine Hs1 12 hS ?_; refine H1 13 (c4 zx0 zy0 vx vy) hS ?_
       refine Hd ?_
       have HOX := Lh (HOB.out.gr hS)
       have HDX := Lh (HDB.out.gr hS)
       have HZX := Lh (And.intro (HZB.out.1.gr hS) HZB.out.2)
       have HXX := Lh (And.intro (HXB.out.1.gr hS) (And.intro (HXB.out.2.1.gr hS) (HXB.out.2.2.gr hS)))
       have HUj := Lh (show (joinL R.mul (T.take i) U ++ join1 R.mul r (U.take (j + 1))).take 61 = (joinL R.mul (T.take i) U ++ join1 R.mul r (U.take j)).take 61 by rw [HUk.out])
       clear hS HXB HYB HVx HVy vx vy HOB HDB HZB HRB d1 d2 hwB zx0 zx1 zy0 zy1
       have e3 := step64 HLj.out HN.out.2.1
       clear hdd hdb hhd HIv j1 i1 k1 k2 k4
      all_goals
       go_wp2_with fail
       go_roundw
       case rel => exact ⟨j + 1, _, by first | (rw [e3]) | rfl | simp, Lh (Nat.succ_le_of_lt HLj.out), HOX, Lh (by rw [HUj.out]; exact HDX.out), HZX, HXX⟩
       case measure => first | (rw [e3]; exact fall HLj.out) | exact fall HLj.out
     obtain rfl : j = n' := by omega
     have j1 : ¬ (j : Int) < (j : Int) := by omega
     have HD2 := Lh (show Dat w wr rawO ((joinL R.mul (T.take (i + 1)) U).take 61) by
      rw [HTk.out, joinL_snoc]
      have h0 := HDO.out
      rwa [List.take_of_length_le (show U.length ≤ j by omega)] at h0)
     clear HDO HZx HXr hm hlt hj
     have hL := HL.out
     have e3 := step64 HL.out hN.1
     go_wp2_with fail
     go_roundw
     case rel => exact ⟨i + 1, _, by first | (rw [e3]) | rfl | simp, Lh (Nat.succ_le_of_lt HL.out), HO, HD2⟩
     case measure => first | (rw [e3]; exact fall HL.out) | exact fall HL.out
   obtain rfl : i = n := by omega
   have i1 : ¬ (i : Int) < (i : Int) := by omega
   have HD2 := Lh (show Dat w wr rawO ((joinL R.mul T U).take 61) by
    have h0 := HDO.out
    rwa [List.take_of_length_le (show T.length ≤ i by omega)] at h0)
   clear hN hi hlt HDO
   go_wp2_with fail
   go_ret
   exact ⟨_, _, rfl, OwnR.base HO.out HG1.out, HD2.out⟩) : P := h
theorem by_any (F : RF) (R : Rg SL) (G : SL → Prop) (μ : SL → Nat) (B : Nat) (w : World) (a a' : Option Addr) (n c n' c' : Nat) (T U : Tbl SL) (hn : n ≤ 1000) (hn' : n' ≤ 1000) (hr : RdT w w a n c T) (hr' : RdT w w a' n' c' U) (hF : RingOk F R G μ B w) (hT : JoinOk R G T) (hU : JoinOk R G U) :
  Calls Tryz.prog 140 #[F.val, .slice a n c, .slice a' n' c'] w (RetRows w ((joinL R.mul T U).take 61)) := by have zS := trivial; exact scrTBs_by_any
structure FromOk (fn : Nat) (fb : Array Value) (φ : SL → SL) (G0 : SL → Prop) (w0 : World) : Prop where
 ef : ∀ args w, (callFunc fn args).run Tryz.prog w = .ok (.enter fn args) w
 cf : ∀ w a n c L, Gr w0 w → RdP w a n c L → G0 L → Calls Tryz.prog fn (#[.slice a n c] ++ fb) w (RetD (φ L) w)
theorem FromOk.gr {fn : Nat} {fb : Array Value} {φ : SL → SL} {G0 : SL → Prop} {w0 w1 : World} (h : FromOk fn fb φ G0 w0) (g : Gr w0 w1) : FromOk fn fb φ G0 w1 :=
 ⟨h.ef, fun w a n c L k => h.cf w a n c L (g.trans k)⟩
theorem scrTCs_first_any {P : Prop} (h : P := by
  have hkn : k < n := by
   have := hr.1
   rcases Nat.lt_or_ge k Ts.length with q | q
   ·omega
   rw [List.getElem?_eq_none q] at hk; cases hk
  obtain ⟨b, o, r, a1, n1, c1, rfl, hr1, k1, k2, hW⟩ := hr.at hkn
  rw [hk] at hr1
  obtain rfl := Option.some.inj hr1
  obtain ⟨W, T⟩ := WT
  simp only at hT hG hW k1 ⊢
  have HX := Lh hW
  have HN := Lh (show n1 = T.length ∧ T.length ≤ 1000 from ⟨hW.1, hT⟩)
  have HG := Lh hG
  have HF := Lh hF
  have hkn' : (k : Int) < (n : Int) := by omega
  have Hbf := Lh hbf
  clear hF hr hk hT hG hr1 hW hbf
  first | (have z := zS; clear z; go_enter Tryz.func106, Tryz.ntmps106) | (go_enter Tryz.func72, Tryz.ntmps72)
  go_wp2_with fail
  clear k1 k2 hbt hkn hkn'
  go_loopw [5, 14] (fun vo si wr => ∃ (i : Nat) (rawO : List Rw), si = .int .i64 i ∧ Hid (i ≤ n1) ∧ Hid (OwnR w wr vo rawO) ∧ Hid (Dat w wr rawO (mapT φ (T.take i)))) (fun _ si _ => n1 - (intOf si).toNat)
  case atStart => exact ⟨0, [], rfl, Lh (Nat.zero_le _), Lh (OwnR.nil w), Lh (Dat.nil _ _)⟩
  case round =>
   obtain ⟨i, rawO, rfl, Hi, HO, HDO⟩ := hrel
   obtain ⟨ao, co, rfl, _⟩ := HO.out.rd
   by_cases hlt : i < n1
   ·have i1 : (i : Int) < (n1 : Int) := by omega
    obtain ⟨b', o', r, xa, xn, xc, ya, yn, yc, rfl, hx, d1, d2, xr, xp⟩ := (HX.out.gr HO.out.2).at hlt
    have hrT := HG.out r (List.mem_of_getElem? hx)
    have HTk := Lh (mapT_take (ι := φ) hx)
    obtain ⟨wA, hwA⟩ : ∃ wA, wr.alloc (.cells #[.slice xa xn xc, .slice ya yn yc] 52) = wA := ⟨_, rfl⟩
    have gA : Gr wr wA := hwA ▸ (Gr.refl wr).alloc _
    have zx0 : wA.cell? ⟨wr.heap.size, 0, none⟩ = some (.slice xa xn xc) := by rw [← hwA]; exact (boxr wr (.slice xa xn xc) (.slice ya yn yc) 52).1
    have zx1 : wA.cell? ⟨wr.heap.size, 1, none⟩ = some (.slice ya yn yc) := by rw [← hwA]; exact (boxr wr (.slice xa xn xc) (.slice ya yn yc) 52).2
    have zf := (HO.out.2.trans gA).cell Hbf.out
    have HOA := Lh (HO.out.gr gA)
    have HDA := Lh (HDO.out.gr gA)
    have CC := Lh (fun W (k : Gr wA W) => Clone3_any xa xn xc r.1 W ((xr.gr gA).gr k) (by have := xr.1; have := hrT.1; omega) (by have := xr.1; have := hrT.2.1; omega))
    have CF := Lh (fun W (k : Gr wA W) => HF.out.cf W ya yn yc r.2 ((HO.out.2.trans gA).trans k) ((xp.gr gA).gr k) hrT.2.2)
    have hcf := HF.out.ef
    have HMl := Lh (show rawO.length ≤ 1000 by
     have h1 := HDO.out.1
     have h2 := HN.out
     rw [h1, mapT, List.length_map, List.length_take]; omega)
    have HLi := Lh hlt
    generalize hmm : rawO.length = m at *
    have HMm := Lh hmm
    clear hx xr xp gA hrT hlt HO HDO hmm
    go_wp2_with fail
    clear d1 d2 hwA
    generalize wr.heap.size = b9 at *
    refine (wpIn_wide (n := 3)).1 ?_
    refine wpIn_region_mark (fun w' => Gr wA w') 10 12 (by kernel_rfl) rfl rfl ?_
    have hS : Gr wA wA.drew := (Gr.refl wA).drew
    refine Mk 0 rfl (c3 zx0 zx1 zf) hS ?_; refine Mk 1 rfl (c3 zx0 zx1 zf) hS ?_; refine Mk 2 rfl (c3 zx0 zx1 zf) hS ?_; refine Mk 4 rfl (c3 zx0 zx1 zf) hS ?_; refine Mk 5 rfl (c3 zx0 zx1 zf) hS ?_; refine Mk 6 rfl (c3 zx0 zx1 zf) hS ?_
    refine wpAnyMIn_ready [3] (by kernel_rfl) (by simp) ?_
    refine AllMIn.cons rfl (by rfl) (fun K hK => ?_) AllMIn.nil
    go_simp
    refine ⟨trivial, ?_⟩
    refine (callsIn_wide.2 (CC.out _ hS)).mono ?_
    rintro e wZ ⟨bN, cN, cur, fz, he, l1, l2, l3, l4, l5, gZ, _⟩
    generalize hlN : r.1.length = lN at he l1 l3
    subst he
    have HNr := Lh (And.intro l1 (And.intro l2 (And.intro l3 (And.intro l4 hlN.symm))))
    have hS : Gr wA wZ := hS.trans gZ
    refine hK.out _ _ (fun _ => hS) ?_
    clear hK K gZ l1 l2 l3 l4 l5 CC hlN
    refine wpAnyMIn_ready [7] (by kernel_rfl) (by simp) ?_
    refine AllMIn.cons rfl (by rfl) (fun K hK => ?_) AllMIn.nil
    go_simp
    refine ⟨trivial, ?_⟩
    refine (callsIn_wide.2 (CF.out _ hS)).mono ?_
    rintro e wU ⟨yyN, rfl, hrep, gU⟩
    have HRp := Lh hrep
    have HGU := Lh gU
    have hS : Gr wA wU := hS.trans gU
    refine hK.out _ _ (fun _ => hS) ?_
    clear hK K gU hrep
    refine Mk 8 rfl (fun _ _ => trivial) hS ?_
    refine wpAnyMIn_ready [9] (by kernel_rfl) (by simp) ?_
    refine AllMIn.cons rfl (by rfl) (fun K hK => ?_) AllMIn.nil
    go_simp
    first | (have z := zS; clear z; obtain ⟨wV, hwV⟩ : ∃ wV, (wU.alloc (.cells #[.slice (some ⟨bN, 0, none⟩) lN cN, .map (some yyN)] 121)) = wV := ⟨_, rfl⟩) | (obtain ⟨wV, hwV⟩ : ∃ wV, (wU.alloc (.cells #[.slice (some ⟨bN, 0, none⟩) lN cN, .int .i64 yyN] 98)) = wV := ⟨_, rfl⟩)
    have hgV : Gr wU wV := hwV ▸ (Gr.refl wU).alloc _
    have hcc := boxr' hwV rfl
    rw [hwV]
    have HcV := Lh hcc
    have HgV := Lh hgV
    have hS : Gr wA wV := hS.trans hgV
    clear hwV hcc hgV
    refine hK.out _ _ (fun _ => hS) ?_
    clear hK K
    refine wpAnyMIn_ready [10] (by kernel_rfl) (by simp) ?_
    refine AllMIn.cons rfl (by rfl) (fun K hK => ?_) AllMIn.nil
    first | (have z := zS; clear z; refine wpIn_app_row _ _ 108 rfl Tryz.underlying108 _ rawO rfl (HOA.out.gr hS) _ ⟨some ⟨bN, 0, none⟩, lN, cN, yyN⟩ rfl HcV.out (by have := HMl.out; have := HMm.out; omega) ?_) | (refine wpIn_app_row _ _ 64 rfl Tryz.underlying64 _ rawO rfl (HOA.out.gr hS) _ ⟨some ⟨bN, 0, none⟩, lN, cN, yyN⟩ rfl HcV.out (by have := HMl.out; have := HMm.out; omega) ?_)
    intro v3 w3 hown3 hg3
    have HO3 := Lh hown3
    have HD3 := Lh ((((HDA.out.gr hS).snoc (x := ⟨some ⟨bN, 0, none⟩, lN, cN, yyN⟩) (r := (r.1, φ r.2)) (show Rd3 wV _ _ _ _ from ⟨HNr.out.2.2.2.2, HNr.out.1, HNr.out.2.1, (fun k => by cases k), ((HNr.out.2.2.1.gr HGU.out).gr HgV.out)⟩) (Old.gr (Old.gr (.inr fun ad ha => by obtain rfl := Option.some.inj ha; exact .inr ⟨_, _, HNr.out.2.2.2.1⟩) HGU.out) HgV.out) ((HRp.out.gr HgV.out))).grown (v := .slice ao m co) (HOA.out.gr hS) hg3))
    refine hK.out _ _ (fun h => absurd h (by decide)) ?_
    clear hK K hown3 hg3 hS
    refine wpAnyMIn_ready [11] (by kernel_rfl) (by simp) ?_
    refine AllMIn.cons rfl (by rfl) (fun K hK => ?_) AllMIn.nil
    go_simp
    refine hK.out _ _ (fun h => absurd h (by decide)) ?_
    clear hK K
    refine wpAnyMIn_done (by kernel_rfl) ?_ _
    have e3 := step64 HLi.out (by have := HN.out; omega)
    clear i1 zx0 zx1 zf hcf
    go_wp2_with fail
    go_roundw
    case rel => exact ⟨i + 1, _, by first | (rw [e3]) | rfl | simp, Lh (Nat.succ_le_of_lt HLi.out), HO3, Lh (by rw [HTk.out]; exact HD3.out)⟩
    case measure => first | (rw [e3]; exact fall HLi.out) | exact fall HLi.out
   have hin : i = n1 := by have := Hi.out; omega
   subst hin
   have i1 : ¬ (i : Int) < (i : Int) := by omega
   have HD2 := Lh (show Dat w wr rawO (mapT φ T) by
    have h0 := HDO.out
    rwa [List.take_of_length_le (show T.length ≤ i by have := HN.out; omega)] at h0)
   clear hlt HDO
   go_wp2_with fail
   go_ret
   exact ⟨_, _, rfl, HO.out, HD2.out⟩) : P := h
theorem first_any (fn : Nat) (fb : Array Value) (φ : SL → SL) (G0 : SL → Prop) (k bt bf : Nat) (a : Option Addr) (n c : Nat) (Ts : List (Int × Tbl SL)) (WT : Int × Tbl SL) (w : World) (hF : FromOk fn fb φ G0 w) (hr : RdWs w a n c Ts) (hk : Ts[k]? = some WT) (hT : WT.2.length ≤ 1000) (hG : ∀ x ∈ WT.2, 1 ≤ x.1.length ∧ x.1.length ≤ 100 ∧ G0 x.2) (hbt : w.cell? ⟨bt, 0, none⟩ = some (.slice a n c)) (hbf : w.cell? ⟨bf, 0, none⟩ = some (.func (.func fn) #[] fb)) :
  Calls Tryz.prog 106 #[.int .i64 k, .pointer (some ⟨bt, 0, none⟩), .pointer (some ⟨bf, 0, none⟩)] w (RetRows w (mapT φ WT.2)) := by have zS := trivial; exact scrTCs_first_any
end Go.Proofs.YtehdemcfeoiecaaGreatDoor.RS
