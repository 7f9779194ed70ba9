import Derived.Test.YtehdemcfeoiecaaGreatDoorK14
import Derived.Test.YtehdemcfeoiecaaGreatDoorK20
set_option maxHeartbeats 64000000
set_option maxRecDepth 100000
namespace Go.Firn
open Go.RowKit
def IsRow (w : World) (a : Option Addr) (len cap : Nat) (zs : List Int) : Prop :=
 (a = none ∧ len = 0 ∧ cap = 0 ∧ zs = []) ∨
 ∃ x, a = some x ∧ len ≤ cap ∧ cap ≤ maxLen ∧ zs.length = cap ∧ (∀ i, i < zs.length → w.cell? (x.add i) = some (.int .i64 (zs.getD i 0))) ∧ ∀ n ∈ zs, (Lit.int .i64 n).wf = true
theorem IsRow.rd {w : World} {a : Option Addr} {len cap : Nat} {zs : List Int} (h : IsRow w a len cap zs) :
  len ≤ 9223372036854775807 ∧ RdI w a len (fun i => zs.getD i 0) := by
 rcases h with ⟨rfl, rfl, rfl, rfl⟩ | ⟨x, rfl, hl, hm, hz, hc, _⟩
 ·exact ⟨by omega, .inl rfl⟩
 unfold maxLen at hm
 refine ⟨by omega, ?_⟩
 by_cases h0 : len = 0
 ·exact .inl h0
 have hs : x.spot = none := by
  have := World.cell?_spot (hc 0 (by omega))
  simpa [Addr.add] using this
 obtain ⟨b, o, s⟩ := x
 simp only at hs
 subst hs
 exact .inr ⟨b, o, rfl, fun i hi => by rw [← hc i (by omega), add_flat rfl]⟩
end Go.Firn
namespace Go.Firn
open Go.RowKit Go.Deep
section
variable {H : Type} {enc : TypeId × Value → H} {P : Program} {w : World} {base : Nat} {spare : Nat → Bool} {held : Bool}
theorem RdS.of_trod {t e S E : TypeId} {f0 f1 : Field} {fuel : Nat} {a : Option Addr} {len cap : Nat} {x : DataW H × List MemPlace} (ht : P.underlying t = some (.slice e)) (he : P.underlying e = some (.struct #[f0, f1]))
  (ce : P.cellsOf e = 2) (h0 : f0.offset = 0 ∧ f0.type = S) (h1 : f1.offset = 1 ∧ f1.type = E) (cS : P.cellsOf S = 1) (cE : P.cellsOf E = 1) (hS : P.underlying S = some .string) (hE : P.underlying E = some (.int .i64))
  (h : DataW.trod enc P w base spare held fuel t [.slice a len cap] = some x) :
  ∃ (f : Nat → ByteArray) (g : Nat → Int), len ≤ 9223372036854775807 ∧ (∀ i, i < len → (f i).size ≤ 9223372036854775807 ∧ (Lit.int .i64 (g i)).wf = true) ∧ RdS w a len f g := by
 obtain ⟨o0, t0⟩ := h0
 obtain ⟨o1, t1⟩ := h1
 rcases open_slice_pairs ht he ce o0 o1 (by rw [t0]; exact cS) (by rw [t1]; exact cE) h with ⟨hcs, _⟩ | ⟨ad, l, c, m, n, V0, V1, D0, D1, P0, P1, hcs, _, hl, hm, hmm, _, hx⟩
 ·simp only [List.cons.injEq, and_true, Value.slice.injEq] at hcs
  obtain ⟨rfl, rfl, rfl⟩ := hcs
  exact ⟨fun _ => ByteArray.empty, fun _ => 0, by omega, fun i hi => by omega, .inl rfl⟩
 simp only [List.cons.injEq, and_true, Value.slice.injEq] at hcs
 obtain ⟨rfl, rfl, rfl⟩ := hcs
 have hlm : len ≤ m := by rw [hmm]; split <;> omega
 have each : ∀ i, i < m → (V0 i = .string (strOf (V0 i)) ∧ (strOf (V0 i)).size ≤ maxLen) ∧ (V1 i = .int .i64 (intOf (V1 i)) ∧ (Lit.int .i64 (intOf (V1 i))).wf = true) := by
  intro i hi
  obtain ⟨_, _, h2, h3⟩ := hx i hi
  rw [t0] at h2
  rw [t1] at h3
  obtain ⟨p, hp, _, wp⟩ := DataW.trod_string hS h2
  obtain ⟨q, hq, _, wq⟩ := DataW.trod_int hE h3
  simp only [List.cons.injEq, and_true] at hp hq
  rw [hp, hq]
  exact ⟨⟨rfl, wp⟩, rfl, wq⟩
 refine ⟨fun i => strOf (V0 i), fun i => intOf (V1 i), ?_, fun i hi => ⟨?_, (each i (by omega)).2.2⟩, ?_⟩
 ·unfold maxLen at hm; omega
 ·have := (each i (by omega)).1.2
  unfold maxLen at this
  omega
 by_cases hz : len = 0
 ·exact .inl hz
 right
 have hs : ad.spot = none := by
  have := World.cell?_spot (hx 0 (by omega)).1
  simpa [Addr.add] using this
 refine ⟨ad.block, ad.off, by rw [← hs], fun i hi => ?_⟩
 obtain ⟨g0, g1, _, _⟩ := hx i (by omega)
 rw [add_flat hs] at g0 g1
 exact ⟨by rw [g0, ← (each i (by omega)).1.1], by rw [← Nat.add_assoc] at g1; rw [g1, ← (each i (by omega)).2.1]⟩
end
end Go.Firn
namespace Go.Firn.Tb
section
variable {D E : Type}
theorem red_run {R : Rg D} {S : Rg E} {φ : D → E} {G : D → Prop} {ws : List Int} {tabs : List (Tbl D)} (h : RedR R S φ G) (hL : RgL R G) (hg : GI G ws tabs) : ∀ (l : List Wd) {pw qw : List Int} {p q : List (Tbl D)}, PI R G pw p → (∀ T ∈ p, ∀ x ∈ T, S.stays (φ x.2) = true → S.fits (φ x.2) = true) → planW ws l pw = some qw → Tb.runT R tabs l p = some q →
  Tb.runT S (tabs.map (mapT φ)) l (p.map (red S φ)) = none ∨ Tb.runT S (tabs.map (mapT φ)) l (p.map (red S φ)) = some (q.map (red S φ))
 | [], pw, qw, p, q, hp, hf, hw, hr => by
  simp only [Tb.runT, Option.some.injEq] at hr
  subst hr
  exact .inr rfl
 | w :: r, pw, qw, p, q, hp, hf, hw, hr => by
  unfold planW at hw
  split at hw
  ·cases hw
  rename_i p' hp'
  have hst := red_step h hL hg hp hf hp'
  unfold Tb.runT at hr ⊢
  split at hr
  ·rename_i ho
   rw [hst]
   by_cases hs : okT S (red S φ (gath R (rowsW R.mul tabs w p))) = true
   ·rw [if_pos hs]
    have := red_run h hL hg r (step_PI hL hg hp hp' ho) (fun T hT => by
     rcases List.mem_append.1 hT with hT | hT
     ·exact hf T (List.mem_of_mem_take hT)
     simp only [List.mem_singleton] at hT
     subst hT
     intro x hx hx'
     refine (okT_le hs).2 (x.1, φ x.2) ?_
     exact List.mem_filter.2 ⟨List.mem_map.2 ⟨x, hx, rfl⟩, hx'⟩) hw hr
    rw [List.map_append] at this
    unfold restW at this ⊢
    rw [List.length_map, ← List.map_take]
    exact this
   rw [if_neg hs]; exact .inl rfl
  cases hr
end
end Go.Firn.Tb
namespace Go.Proofs.YtehdemcfeoiecaaGreatDoor
open Go.RowKit Go.Firn Go.Shelf
def awF (i : Nat) : ByteArray := ([⟨#[97]⟩, ⟨#[97, 98]⟩, ⟨#[98, 99]⟩] : List ByteArray).getD i ByteArray.empty
def awG (i : Nat) : Int := ([2, 1, 1] : List Int).getD i 0
theorem Awake_any (w : World) : Calls Tryz.prog 11 #[] w (RetB true w) := by
 have E1 : VlN awF awG 3 (fun _ => 1) 8 = 4 := by decide +kernel
 have E2 : VlE awF awG 3 (fun _ => 1) 8 = 0 := by decide +kernel
 obtain ⟨W1, hW1⟩ : ∃ W1, (w.alloc (.cells #[.string ⟨#[97]⟩, .int .i64 2, .string ⟨#[97, 98]⟩, .int .i64 1, .string ⟨#[98, 99]⟩, .int .i64 1] 58)).alloc (.cells #[.int .i64 1, .int .i64 1, .int .i64 1, .int .i64 1, .int .i64 1, .int .i64 1, .int .i64 1, .int .i64 1] 3) = W1 := ⟨_, rfl⟩
 have G1 := Lh (show Gr w W1 by rw [← hW1]; exact ((Gr.refl w).alloc _).alloc _)
 have C := Lh (Value_any (some ⟨w.heap.size, 0, none⟩) (some ⟨w.heap.size + 1, 0, none⟩) 3 3 8 8 awF awG (fun _ => 1) W1 (by omega) (fun i hi => by
   match i, hi with
   | 0, _ => decide
   | 1, _ => decide
   | 2, _ => decide) (by omega)
  (.inr ⟨w.heap.size, 0, rfl, fun i hi => by
   rw [← hW1]
   match i, hi with
   | 0, _ => exact ⟨(((Gr.refl _).alloc _).fresh' rfl rfl).1, (((Gr.refl _).alloc _).fresh' rfl rfl).1⟩
   | 1, _ => exact ⟨(((Gr.refl _).alloc _).fresh' rfl rfl).1, (((Gr.refl _).alloc _).fresh' rfl rfl).1⟩
   | 2, _ => exact ⟨(((Gr.refl _).alloc _).fresh' rfl rfl).1, (((Gr.refl _).alloc _).fresh' rfl rfl).1⟩⟩)
  (.inr ⟨w.heap.size + 1, 0, rfl, fun i hi => by
   rw [← hW1]
   have hs : (w.alloc (.cells #[.string ⟨#[97]⟩, .int .i64 2, .string ⟨#[97, 98]⟩, .int .i64 1, .string ⟨#[98, 99]⟩, .int .i64 1] 58)).heap.size = w.heap.size + 1 := by simp
   match i, hi with
   | 0, _ => exact ((Gr.refl _).fresh' hs rfl).1
   | 1, _ => exact ((Gr.refl _).fresh' hs rfl).1
   | 2, _ => exact ((Gr.refl _).fresh' hs rfl).1
   | 3, _ => exact ((Gr.refl _).fresh' hs rfl).1
   | 4, _ => exact ((Gr.refl _).fresh' hs rfl).1
   | 5, _ => exact ((Gr.refl _).fresh' hs rfl).1
   | 6, _ => exact ((Gr.refl _).fresh' hs rfl).1
   | 7, _ => exact ((Gr.refl _).fresh' hs rfl).1⟩))
 rw [E1, E2] at C
 clear E1 E2
 go_enter Tryz.func11, Tryz.ntmps11
 go_wp2_with (go_at_call 32; (with_reducible refine C.out.mono ?_); rintro e w1 ⟨rfl, g1⟩)
 go_ret
 exact ⟨rfl, G1.out.trans g1⟩
end Go.Proofs.YtehdemcfeoiecaaGreatDoor
namespace Go.Firn
open Go.RowKit Go.Deep Go.ChangeShapes Go.WideShapes Go.ChangeAt Go.Firn.Tb Go.Proofs.YtehdemcfeoiecaaGreatDoor
section
variable {H : Type} {enc : TypeId × Value → H} {P : Program} {w : World} {base : Nat} {spare : Nat → Bool} {held : Bool}
theorem open_Rd3 {t e : TypeId} {fuel : Nat} {cs : List Value} {x : DataW H × List MemPlace} (ht : P.underlying t = some (.slice e)) (he : P.underlying e = some (.int .i64)) (ce : P.cellsOf e = 1)
  (h : DataW.trod enc P w base spare held fuel t cs = some x) : ∃ a n c L, cs = [.slice a n c] ∧ Rd3 w a n c L ∧ ∀ z ∈ L, (Lit.int .i64 z).wf = true := by
 rcases open_ints ht he ce h with ⟨rfl, _⟩ | ⟨ad, len, cap, zs, rfl, _, hl, hm, hz, _, hc, hw⟩
 ·exact ⟨none, 0, 0, [], rfl, ⟨rfl, Nat.le_refl _, by omega, fun _ => rfl, .inl rfl⟩, fun z hz => by cases hz⟩
 have hlz : len ≤ zs.length := by rw [hz]; split <;> omega
 refine ⟨some ad, len, cap, zs.take len, rfl, ⟨by rw [List.length_take]; omega, hl, hm, (fun k => by cases k), ?_⟩, fun z hz => hw z (List.mem_of_mem_take hz)⟩
 by_cases h0 : len = 0
 ·exact .inl h0
 have hs : ad.spot = none := by
  have := World.cell?_spot (hc 0 (by omega))
  simpa [Addr.add] using this
 refine .inr ⟨ad.block, ad.off, by rw [← hs], fun i hi => ?_⟩
 have := hc i (by omega)
 rw [add_flat hs] at this
 rw [this]
 unfold iv
 rw [List.getD_eq_getElem?_getD, List.getD_eq_getElem?_getD, List.getElem?_take, if_pos hi]
theorem open_RdP {t e S E : TypeId} {f0 f1 : Field} {fuel : Nat} {cs : List Value} {x : DataW H × List MemPlace} (ht : P.underlying t = some (.slice e)) (he : P.underlying e = some (.struct #[f0, f1]))
  (ce : P.cellsOf e = 2) (h0 : f0.offset = 0 ∧ f0.type = S) (h1 : f1.offset = 1 ∧ f1.type = E) (cS : P.cellsOf S = 1) (cE : P.cellsOf E = 1) (hS : P.underlying S = some .string) (hE : P.underlying E = some (.int .i64))
  (h : DataW.trod enc P w base spare held fuel t cs = some x) : ∃ a n c L, cs = [.slice a n c] ∧ RdP w a n c L ∧ SzS L := by
 have hh := h
 rcases open_slice ht h with ⟨rfl, _⟩ | ⟨ad, len, cap, m, n, D, Pl, rfl, hb, hl, hm, _⟩
 ·exact ⟨none, 0, 0, [], rfl, ⟨rfl, Nat.le_refl _, by omega, fun _ => rfl, .inl rfl⟩, fun z hz => by cases hz⟩
 obtain ⟨f, g, hn, hz, hr⟩ := RdS.of_trod ht he ce h0 h1 cS cE hS hE hh
 refine ⟨some ad, len, cap, ofS f g len, rfl, ⟨(ofS_length f g len).symm, hl, hm, (fun k => by cases k), ?_⟩, fun y hy => ?_⟩
 ·exact hr.congr fun i hi => ⟨(sx_ofS hi).1.symm, (sx_ofS hi).2.symm⟩
 obtain ⟨i, hi, rfl⟩ := ofS_mem.1 hy
 have := hz i hi
 exact ⟨by rw [size_key]; exact this.1, this.2⟩
theorem open_RdW {t e V Z F G S E : TypeId} {f0 f1 g0 g1 : Field} {fuel : Nat} {cs : List Value} {x : DataW H × List MemPlace} (ht : P.underlying t = some (.slice e)) (he : P.underlying e = some (.struct #[f0, f1]))
  (ce : P.cellsOf e = 2) (h0 : f0.offset = 0 ∧ f0.type = V) (h1 : f1.offset = 1 ∧ f1.type = F) (cV : P.cellsOf V = 1) (cF : P.cellsOf F = 1) (hV : P.underlying V = some (.slice Z)) (hZ : P.underlying Z = some (.int .i64)) (cZ : P.cellsOf Z = 1)
  (hF : P.underlying F = some (.slice G)) (hG : P.underlying G = some (.struct #[g0, g1])) (cG : P.cellsOf G = 2) (k0 : g0.offset = 0 ∧ g0.type = S) (k1 : g1.offset = 1 ∧ g1.type = E) (cS : P.cellsOf S = 1) (cE : P.cellsOf E = 1) (hS : P.underlying S = some .string) (hE : P.underlying E = some (.int .i64))
  (h : DataW.trod enc P w base spare held fuel t cs = some x) : ∃ a n c T, cs = [.slice a n c] ∧ RdW w a n c T ∧ SzW T := by
 obtain ⟨o0, t0⟩ := h0
 obtain ⟨o1, t1⟩ := h1
 rcases open_slice_pairs ht he ce o0 o1 (by rw [t0]; exact cV) (by rw [t1]; exact cF) h with ⟨rfl, _⟩ | ⟨ad, len, cap, m, n, V0, V1, D0, D1, P0, P1, rfl, _, hl, hm, hmm, _, hx⟩
 ·exact ⟨none, 0, 0, [], rfl, ⟨rfl, Nat.le_refl _, by omega, fun _ => rfl, .inl rfl⟩, fun z hz => by cases hz⟩
 have hlm : len ≤ m := by rw [hmm]; split <;> omega
 have each : ∀ i, i < m → ∃ q : List Int × SL, ∃ a1 n1 c1 a2 n2 c2, V0 i = .slice a1 n1 c1 ∧ V1 i = .slice a2 n2 c2 ∧ Rd3 w a1 n1 c1 q.1 ∧ RdP w a2 n2 c2 q.2 ∧ (∀ x ∈ q.1, (Lit.int .i64 x).wf = true) ∧ SzS q.2 := by
  intro i hi
  obtain ⟨_, _, h2, h3⟩ := hx i hi
  rw [t0] at h2
  rw [t1] at h3
  obtain ⟨a1, n1, c1, L, e1, r1, s1⟩ := open_Rd3 hV hZ cZ h2
  obtain ⟨a2, n2, c2, M, e2, r2, s2⟩ := open_RdP hF hG cG k0 k1 cS cE hS hE h3
  simp only [List.cons.injEq, and_true] at e1 e2
  exact ⟨(L, M), a1, n1, c1, a2, n2, c2, e1, e2, r1, r2, s1, s2⟩
 obtain ⟨q, hq⟩ : ∃ q : Nat → List Int × SL, ∀ i, i < m → ∃ a1 n1 c1 a2 n2 c2, V0 i = .slice a1 n1 c1 ∧ V1 i = .slice a2 n2 c2 ∧ Rd3 w a1 n1 c1 (q i).1 ∧ RdP w a2 n2 c2 (q i).2 ∧ (∀ x ∈ (q i).1, (Lit.int .i64 x).wf = true) ∧ SzS (q i).2 := by
  refine ⟨fun i => if h : i < m then (each i h).choose else ([], []), fun i hi => ?_⟩
  simp only [dif_pos hi]
  exact (each i hi).choose_spec
 refine ⟨some ad, len, cap, (List.range len).map q, rfl, ⟨by simp, hl, by unfold maxLen at hm; omega, (fun k => by cases k), ?_⟩, fun r hr => ?_⟩
 ·by_cases hz : len = 0
  ·exact .inl hz
  have hs : ad.spot = none := by
   have := World.cell?_spot (hx 0 (by omega)).1
   simpa [Addr.add] using this
  refine .inr ⟨ad.block, ad.off, by rw [← hs], fun i r hr => ?_⟩
  have hi : i < len := by
   rcases Nat.lt_or_ge i len with k | k
   ·exact k
   rw [List.getElem?_eq_none (by simpa using k)] at hr; cases hr
  rw [List.getElem?_map, List.getElem?_range hi] at hr
  simp only [Option.map_some, Option.some.injEq] at hr
  subst hr
  obtain ⟨c0, c1, _, _⟩ := hx i (by omega)
  rw [add_flat hs] at c0 c1
  obtain ⟨a1, n1, cc1, a2, n2, cc2, e1, e2, r1, r2, _, _⟩ := hq i (by omega)
  exact ⟨a1, n1, cc1, a2, n2, cc2, by rw [c0, e1], by rw [← Nat.add_assoc] at c1; rw [c1, e2], r1, r2⟩
 obtain ⟨i, hi, rfl⟩ := List.mem_map.1 hr
 rw [List.mem_range] at hi
 obtain ⟨_, _, _, _, _, _, _, _, _, _, s1, s2⟩ := hq i (by omega)
 exact ⟨s1, s2⟩
theorem open_RdWs {t e N tt ee V Z F G S E : TypeId} {h0 h1 f0 f1 g0 g1 : Field} {fuel : Nat} {cs : List Value} {x : DataW H × List MemPlace}
  (ht : P.underlying t = some (.slice e)) (he : P.underlying e = some (.struct #[h0, h1])) (ce : P.cellsOf e = 2) (i0 : h0.offset = 0 ∧ h0.type = N) (i1 : h1.offset = 1 ∧ h1.type = tt) (cN : P.cellsOf N = 1) (ctt : P.cellsOf tt = 1) (hN : P.underlying N = some (.int .i64))
  (htt : P.underlying tt = some (.slice ee)) (hee : P.underlying ee = some (.struct #[f0, f1]))
  (cee : P.cellsOf ee = 2) (j0 : f0.offset = 0 ∧ f0.type = V) (j1 : f1.offset = 1 ∧ f1.type = F) (cV : P.cellsOf V = 1) (cF : P.cellsOf F = 1) (hV : P.underlying V = some (.slice Z)) (hZ : P.underlying Z = some (.int .i64)) (cZ : P.cellsOf Z = 1)
  (hF : P.underlying F = some (.slice G)) (hG : P.underlying G = some (.struct #[g0, g1])) (cG : P.cellsOf G = 2) (k0 : g0.offset = 0 ∧ g0.type = S) (k1 : g1.offset = 1 ∧ g1.type = E) (cS : P.cellsOf S = 1) (cE : P.cellsOf E = 1) (hS : P.underlying S = some .string) (hE : P.underlying E = some (.int .i64))
  (h : DataW.trod enc P w base spare held fuel t cs = some x) : ∃ a n c Ts, cs = [.slice a n c] ∧ RdWs w a n c Ts ∧ SzWs Ts := by
 obtain ⟨o0, t0⟩ := i0
 obtain ⟨o1, t1⟩ := i1
 rcases open_slice_pairs ht he ce o0 o1 (by rw [t0]; exact cN) (by rw [t1]; exact ctt) h with ⟨rfl, _⟩ | ⟨ad, len, cap, m, n, V0, V1, D0, D1, P0, P1, rfl, _, hl, hm, hmm, _, hx⟩
 ·exact ⟨none, 0, 0, [], rfl, ⟨rfl, Nat.le_refl _, by omega, fun _ => rfl, .inl rfl⟩, fun z hz => by cases hz⟩
 have hlm : len ≤ m := by rw [hmm]; split <;> omega
 have each : ∀ i, i < m → ∃ q : Int × Tbl SL, ∃ a1 n1 c1, V0 i = .int .i64 q.1 ∧ V1 i = .slice a1 n1 c1 ∧ RdW w a1 n1 c1 q.2 ∧ (Lit.int .i64 q.1).wf = true ∧ SzW q.2 := by
  intro i hi
  obtain ⟨_, _, h2, h3⟩ := hx i hi
  rw [t0] at h2
  rw [t1] at h3
  obtain ⟨p, e1, _, w1⟩ := DataW.trod_int hN h2
  obtain ⟨a2, n2, c2, M, e2, r2, s2⟩ := open_RdW htt hee cee j0 j1 cV cF hV hZ cZ hF hG cG k0 k1 cS cE hS hE h3
  simp only [List.cons.injEq, and_true] at e1 e2
  exact ⟨(p, M), a2, n2, c2, e1, e2, r2, w1, s2⟩
 obtain ⟨q, hq⟩ : ∃ q : Nat → Int × Tbl SL, ∀ i, i < m → ∃ a1 n1 c1, V0 i = .int .i64 (q i).1 ∧ V1 i = .slice a1 n1 c1 ∧ RdW w a1 n1 c1 (q i).2 ∧ (Lit.int .i64 (q i).1).wf = true ∧ SzW (q i).2 := by
  refine ⟨fun i => if h : i < m then (each i h).choose else (0, []), fun i hi => ?_⟩
  simp only [dif_pos hi]
  exact (each i hi).choose_spec
 refine ⟨some ad, len, cap, (List.range len).map q, rfl, ⟨by simp, hl, by unfold maxLen at hm; omega, (fun k => by cases k), ?_⟩, fun r hr => ?_⟩
 ·by_cases hz : len = 0
  ·exact .inl hz
  have hs : ad.spot = none := by
   have := World.cell?_spot (hx 0 (by omega)).1
   simpa [Addr.add] using this
  refine .inr ⟨ad.block, ad.off, by rw [← hs], fun i r hr => ?_⟩
  have hi : i < len := by
   rcases Nat.lt_or_ge i len with k | k
   ·exact k
   rw [List.getElem?_eq_none (by simpa using k)] at hr; cases hr
  rw [List.getElem?_map, List.getElem?_range hi] at hr
  simp only [Option.map_some, Option.some.injEq] at hr
  subst hr
  obtain ⟨c0, c1, _, _⟩ := hx i (by omega)
  rw [add_flat hs] at c0 c1
  obtain ⟨a1, n1, cc1, e1, e2, r1, _, _⟩ := hq i (by omega)
  exact ⟨a1, n1, cc1, by rw [c0, e1], by rw [← Nat.add_assoc] at c1; rw [c1, e2], r1⟩
 obtain ⟨i, hi, rfl⟩ := List.mem_map.1 hr
 rw [List.mem_range] at hi
 obtain ⟨_, _, _, _, _, _, s1, s2⟩ := hq i (by omega)
 exact ⟨s1, s2⟩
end
end Go.Firn
namespace Go.Proofs.YtehdemcfeoiecaaGreatDoor
open Go.RowKit Go.Firn Go.Firn.Tb
theorem RdW.of_rows {w0 w : World} {a : Option Addr} {n c : Nat} {raw : List RW.Rw} {T : Tbl SL} (h : RW.RdR w a n c raw) (hd : RW.Dat w0 w raw T) : RdW w a n c T := by
 obtain ⟨h1, h2, h3, h4, h5⟩ := h
 refine ⟨h1.trans hd.1, h2, h3, h4, ?_⟩
 rcases h5 with h5 | ⟨b, o, ha, hc⟩
 ·exact .inl h5
 refine .inr ⟨b, o, ha, fun i r hr => ?_⟩
 have hi : i < raw.length := by
  rw [hd.1]
  rcases Nat.lt_or_ge i T.length with q | q
  ·exact q
  rw [List.getElem?_eq_none q] at hr; cases hr
 have hx := List.getElem?_eq_getElem hi
 obtain ⟨c0, c1⟩ := hc i _ hx
 obtain ⟨d1, _, d3⟩ := hd.2 i _ r hx hr
 exact ⟨_, _, _, _, _, _, c0, c1, d1, d3.1⟩
end Go.Proofs.YtehdemcfeoiecaaGreatDoor
namespace Go.Firn
theorem IsRow.cap {w : World} {a : Option Addr} {len cap : Nat} {zs : List Int} (h : IsRow w a len cap zs) : len ≤ cap := by
 rcases h with ⟨_, rfl, rfl, _⟩ | ⟨x, _, hl, _⟩
 ·exact Nat.le_refl _
 exact hl
end Go.Firn
namespace Go.Proofs.YtehdemcfeoiecaaGreatDoor
open Go.ChangeShapes Go.WideShapes Go.ChangeAt Go.RowKit Go.Firn
theorem laidOut : laidOutB Tryz.prog = true := by kernel_rfl
def fillObj (zs : List Nat) : Obj → Obj
 | .cells _ t frozen => .cells (zs.map fun x : Nat => Value.int .u8 (x : Int)).toArray t frozen
 | o => o
def accZ : List Nat := [128, 191, 160, 191, 128, 159, 144, 191, 128, 143]
theorem gES : Tryz.prog.globalNamed "strconv.ErrSyntax" = some 3 := by kernel_rfl
theorem gESType : (Tryz.prog.globals[3]?).map (·.type) = some 170 := by kernel_rfl
theorem gER : Tryz.prog.globalNamed "strconv.ErrRange" = some 4 := by kernel_rfl
theorem gERType : (Tryz.prog.globals[4]?).map (·.type) = some 170 := by kernel_rfl
theorem cells284 : Tryz.prog.cellsOf 284 = 1 := by kernel_rfl
theorem cells9 : Tryz.prog.cellsOf 9 = 1 := by kernel_rfl
theorem starE : "*" ++ "errors.errorString" = "*errors.errorString" := by decide
theorem row282 (u : TypeId) (h : Tryz.prog.typeName? 3 u = some "*errors.errorString") : u = 282 :=
 typeName_ptr_named (nm := "errors.errorString") (by rw [starE]; kernel_rfl) (by kernel_rfl) (by decide) u (by rw [starE]; exact h)
theorem errs_of {W : World} (h : laidMetH Tryz.prog Rows.provCountsRow.laid W) : Errs W := by
 obtain ⟨a0, s0, hv0, -, -, -⟩ := laid_sentinel (r := []) (laidMetH.filter (fun x => x.1 == "strconv.ErrSyntax") h) gES gESType Tryz.underlying170 row282 Tryz.underlying282 Tryz.underlying284 rfl rfl Tryz.underlying9 cells284 cells9
 obtain ⟨a1, s1, hv1, -, -, -⟩ := laid_sentinel (r := []) (laidMetH.filter (fun x => x.1 == "strconv.ErrRange") h) gER gERType Tryz.underlying170 row282 Tryz.underlying282 Tryz.underlying284 rfl rfl Tryz.underlying9 cells284 cells9
 rintro g (rfl | rfl)
 ·exact ⟨_, by have h0 := World.var?_cell gES hv0 0; simpa using h0, .inr ⟨_, _, rfl⟩⟩
 exact ⟨_, by have h0 := World.var?_cell gER hv1 0; simpa using h0, .inr ⟨_, _, rfl⟩⟩
abbrev textES : ByteArray := { data := #[105, 110, 118, 97, 108, 105, 100, 32, 115, 121, 110, 116, 97, 120] }
abbrev textER : ByteArray := { data := #[118, 97, 108, 117, 101, 32, 111, 117, 116, 32, 111, 102, 32, 114, 97, 110, 103, 101] }
noncomputable def low : Nat := (World.holding Tryz.prog default ⟨#[], #[], []⟩).heap.size
def db32 : List Nat := [0, 1, 28, 2, 29, 14, 24, 3, 30, 22, 20, 15, 25, 17, 4, 8, 31, 27, 13, 23, 21, 19, 16, 7, 26, 12, 18, 6, 11, 5, 10, 9]
def db64 : List Nat := [0, 1, 56, 2, 57, 49, 28, 3, 61, 58, 42, 50, 38, 29, 17, 4, 62, 47, 59, 36, 45, 43, 51, 22, 53, 39, 33, 30, 24, 18, 12, 5, 63, 55, 48, 27, 60, 41, 37, 16, 46, 35, 44, 21, 52, 32, 23, 11, 54, 26, 40, 15, 34, 20, 31, 10, 25, 14, 19, 9, 13, 8, 7, 6]
def fillU64 (zs : List Int) : Obj → Obj
 | .cells _ t frozen => .cells (zs.map fun x => Value.int .u64 x).toArray t frozen
 | o => o
def fillErr (b : Nat) : Obj → Obj
 | .cells _ t frozen => .cells #[.iface 282 (.pointer (some ⟨b, 0, none⟩))] t frozen
 | o => o
noncomputable def laidWorldT (os : Os) : World :=
 let w0 := World.holding Tryz.prog os ⟨#[.cells #[.string textES] 284, .cells #[.string textER] 284], #[], []⟩
 { w0 with heap := ((((((w0.heap.modify 1 (fillObj Go.Pinned.utf8FirstZ)).modify 2 (fillObj (accZ ++ List.replicate 22 0))).modify 3 (fillErr low)).modify 4 (fillErr (low + 1))).modify 5 (fillU64 Lib.pow10Tab)).modify 6 (fillObj db32)).modify 7 (fillObj db64) }
end Go.Proofs.YtehdemcfeoiecaaGreatDoor
