import Derived.Test.YtehdemcfeoiecaaGreatDoorK20
set_option maxHeartbeats 64000000
set_option maxRecDepth 100000
namespace Go.Firn
open Go.RowKit Go.Deep
section
variable {H : Type} {enc : TypeId × Value → H} {P : Program} {w : World} {base : Nat} {spare : Nat → Bool} {held : Bool}
theorem RdS.of_trod {t e S E : TypeId} {f0 f1 : Field} {fuel : Nat} {a : Option Addr} {len cap : Nat} {x : DataW H × List MemPlace} (ht : P.underlying t = some (.slice e)) (he : P.underlying e = some (.struct #[f0, f1]))
  (ce : P.cellsOf e = 2) (h0 : f0.offset = 0 ∧ f0.type = S) (h1 : f1.offset = 1 ∧ f1.type = E) (cS : P.cellsOf S = 1) (cE : P.cellsOf E = 1) (hS : P.underlying S = some .string) (hE : P.underlying E = some (.int .i64))
  (h : DataW.trod enc P w base spare held fuel t [.slice a len cap] = some x) :
  ∃ (f : Nat → ByteArray) (g : Nat → Int), len ≤ 9223372036854775807 ∧ (∀ i, i < len → (f i).size ≤ 9223372036854775807 ∧ (Lit.int .i64 (g i)).wf = true) ∧ RdS w a len f g := by
 obtain ⟨o0, t0⟩ := h0
 obtain ⟨o1, t1⟩ := h1
 rcases open_slice_pairs ht he ce o0 o1 (by rw [t0]; exact cS) (by rw [t1]; exact cE) h with ⟨hcs, _⟩ | ⟨ad, l, c, m, n, V0, V1, D0, D1, P0, P1, hcs, _, hl, hm, hmm, _, hx⟩
 ·simp only [List.cons.injEq, and_true, Value.slice.injEq] at hcs
  obtain ⟨rfl, rfl, rfl⟩ := hcs
  exact ⟨fun _ => ByteArray.empty, fun _ => 0, by omega, fun i hi => by omega, .inl rfl⟩
 simp only [List.cons.injEq, and_true, Value.slice.injEq] at hcs
 obtain ⟨rfl, rfl, rfl⟩ := hcs
 have hlm : len ≤ m := by rw [hmm]; split <;> omega
 have each : ∀ i, i < m → (V0 i = .string (strOf (V0 i)) ∧ (strOf (V0 i)).size ≤ maxLen) ∧ (V1 i = .int .i64 (intOf (V1 i)) ∧ (Lit.int .i64 (intOf (V1 i))).wf = true) := by
  intro i hi
  obtain ⟨_, _, h2, h3⟩ := hx i hi
  rw [t0] at h2
  rw [t1] at h3
  obtain ⟨p, hp, _, wp⟩ := DataW.trod_string hS h2
  obtain ⟨q, hq, _, wq⟩ := DataW.trod_int hE h3
  simp only [List.cons.injEq, and_true] at hp hq
  rw [hp, hq]
  exact ⟨⟨rfl, wp⟩, rfl, wq⟩
 refine ⟨fun i => strOf (V0 i), fun i => intOf (V1 i), ?_, fun i hi => ⟨?_, (each i (by omega)).2.2⟩, ?_⟩
 ·unfold maxLen at hm; omega
 ·have := (each i (by omega)).1.2
  unfold maxLen at this
  omega
 by_cases hz : len = 0
 ·exact .inl hz
 right
 have hs : ad.spot = none := by
  have := World.cell?_spot (hx 0 (by omega)).1
  simpa [Addr.add] using this
 refine ⟨ad.block, ad.off, by rw [← hs], fun i hi => ?_⟩
 obtain ⟨g0, g1, _, _⟩ := hx i (by omega)
 rw [add_flat hs] at g0 g1
 exact ⟨by rw [g0, ← (each i (by omega)).1.1], by rw [← Nat.add_assoc] at g1; rw [g1, ← (each i (by omega)).2.1]⟩
end
end Go.Firn
namespace Go.Proofs.YtehdemcfeoiecaaGreatDoor
open Go.RowKit Go.Firn Go.Shelf
def awF (i : Nat) : ByteArray := ([⟨#[97]⟩, ⟨#[97, 98]⟩, ⟨#[98, 99]⟩] : List ByteArray).getD i ByteArray.empty
def awG (i : Nat) : Int := ([2, 1, 1] : List Int).getD i 0
theorem Awake_any (w : World) : Calls Tryz.prog 11 #[] w (RetB true w) := by
 have E1 : VlN awF awG 3 (fun _ => 1) 8 = 4 := by decide +kernel
 have E2 : VlE awF awG 3 (fun _ => 1) 8 = 0 := by decide +kernel
 obtain ⟨W1, hW1⟩ : ∃ W1, (w.alloc (.cells #[.string ⟨#[97]⟩, .int .i64 2, .string ⟨#[97, 98]⟩, .int .i64 1, .string ⟨#[98, 99]⟩, .int .i64 1] 58)).alloc (.cells #[.int .i64 1, .int .i64 1, .int .i64 1, .int .i64 1, .int .i64 1, .int .i64 1, .int .i64 1, .int .i64 1] 3) = W1 := ⟨_, rfl⟩
 have G1 := Lh (show Gr w W1 by rw [← hW1]; exact ((Gr.refl w).alloc _).alloc _)
 have C := Lh (Value_any (some ⟨w.heap.size, 0, none⟩) (some ⟨w.heap.size + 1, 0, none⟩) 3 3 8 8 awF awG (fun _ => 1) W1 (by omega) (fun i hi => by
   match i, hi with
   | 0, _ => decide
   | 1, _ => decide
   | 2, _ => decide) (by omega)
  (.inr ⟨w.heap.size, 0, rfl, fun i hi => by
   rw [← hW1]
   match i, hi with
   | 0, _ => exact ⟨(((Gr.refl _).alloc _).fresh' rfl rfl).1, (((Gr.refl _).alloc _).fresh' rfl rfl).1⟩
   | 1, _ => exact ⟨(((Gr.refl _).alloc _).fresh' rfl rfl).1, (((Gr.refl _).alloc _).fresh' rfl rfl).1⟩
   | 2, _ => exact ⟨(((Gr.refl _).alloc _).fresh' rfl rfl).1, (((Gr.refl _).alloc _).fresh' rfl rfl).1⟩⟩)
  (.inr ⟨w.heap.size + 1, 0, rfl, fun i hi => by
   rw [← hW1]
   have hs : (w.alloc (.cells #[.string ⟨#[97]⟩, .int .i64 2, .string ⟨#[97, 98]⟩, .int .i64 1, .string ⟨#[98, 99]⟩, .int .i64 1] 58)).heap.size = w.heap.size + 1 := by simp
   match i, hi with
   | 0, _ => exact ((Gr.refl _).fresh' hs rfl).1
   | 1, _ => exact ((Gr.refl _).fresh' hs rfl).1
   | 2, _ => exact ((Gr.refl _).fresh' hs rfl).1
   | 3, _ => exact ((Gr.refl _).fresh' hs rfl).1
   | 4, _ => exact ((Gr.refl _).fresh' hs rfl).1
   | 5, _ => exact ((Gr.refl _).fresh' hs rfl).1
   | 6, _ => exact ((Gr.refl _).fresh' hs rfl).1
   | 7, _ => exact ((Gr.refl _).fresh' hs rfl).1⟩))
 rw [E1, E2] at C
 clear E1 E2
 go_enter Tryz.func11, Tryz.ntmps11
 go_wp2_with (go_at_call 32; (with_reducible refine C.out.mono ?_); rintro e w1 ⟨rfl, g1⟩)
 go_ret
 exact ⟨rfl, G1.out.trans g1⟩
end Go.Proofs.YtehdemcfeoiecaaGreatDoor
namespace Go.Firn
open Go.RowKit Go.Deep Go.ChangeShapes Go.WideShapes Go.ChangeAt Go.Firn.Tb Go.Proofs.YtehdemcfeoiecaaGreatDoor
section
variable {H : Type} {enc : TypeId × Value → H} {P : Program} {w : World} {base : Nat} {spare : Nat → Bool} {held : Bool}
theorem open_Rd3 {t e : TypeId} {fuel : Nat} {cs : List Value} {x : DataW H × List MemPlace} (ht : P.underlying t = some (.slice e)) (he : P.underlying e = some (.int .i64)) (ce : P.cellsOf e = 1)
  (h : DataW.trod enc P w base spare held fuel t cs = some x) : ∃ a n c L, cs = [.slice a n c] ∧ Rd3 w a n c L ∧ ∀ z ∈ L, (Lit.int .i64 z).wf = true := by
 rcases open_ints ht he ce h with ⟨rfl, _⟩ | ⟨ad, len, cap, zs, rfl, _, hl, hm, hz, _, hc, hw⟩
 ·exact ⟨none, 0, 0, [], rfl, ⟨rfl, Nat.le_refl _, by omega, fun _ => rfl, .inl rfl⟩, fun z hz => by cases hz⟩
 have hlz : len ≤ zs.length := by rw [hz]; split <;> omega
 refine ⟨some ad, len, cap, zs.take len, rfl, ⟨by rw [List.length_take]; omega, hl, hm, (fun k => by cases k), ?_⟩, fun z hz => hw z (List.mem_of_mem_take hz)⟩
 by_cases h0 : len = 0
 ·exact .inl h0
 have hs : ad.spot = none := by
  have := World.cell?_spot (hc 0 (by omega))
  simpa [Addr.add] using this
 refine .inr ⟨ad.block, ad.off, by rw [← hs], fun i hi => ?_⟩
 have := hc i (by omega)
 rw [add_flat hs] at this
 rw [this]
 unfold iv
 rw [List.getD_eq_getElem?_getD, List.getD_eq_getElem?_getD, List.getElem?_take, if_pos hi]
theorem open_RdP {t e S E : TypeId} {f0 f1 : Field} {fuel : Nat} {cs : List Value} {x : DataW H × List MemPlace} (ht : P.underlying t = some (.slice e)) (he : P.underlying e = some (.struct #[f0, f1]))
  (ce : P.cellsOf e = 2) (h0 : f0.offset = 0 ∧ f0.type = S) (h1 : f1.offset = 1 ∧ f1.type = E) (cS : P.cellsOf S = 1) (cE : P.cellsOf E = 1) (hS : P.underlying S = some .string) (hE : P.underlying E = some (.int .i64))
  (h : DataW.trod enc P w base spare held fuel t cs = some x) : ∃ a n c L, cs = [.slice a n c] ∧ RdP w a n c L ∧ SzS L := by
 have hh := h
 rcases open_slice ht h with ⟨rfl, _⟩ | ⟨ad, len, cap, m, n, D, Pl, rfl, hb, hl, hm, _⟩
 ·exact ⟨none, 0, 0, [], rfl, ⟨rfl, Nat.le_refl _, by omega, fun _ => rfl, .inl rfl⟩, fun z hz => by cases hz⟩
 obtain ⟨f, g, hn, hz, hr⟩ := RdS.of_trod ht he ce h0 h1 cS cE hS hE hh
 refine ⟨some ad, len, cap, ofS f g len, rfl, ⟨(ofS_length f g len).symm, hl, hm, (fun k => by cases k), ?_⟩, fun y hy => ?_⟩
 ·exact hr.congr fun i hi => ⟨(sx_ofS hi).1.symm, (sx_ofS hi).2.symm⟩
 obtain ⟨i, hi, rfl⟩ := ofS_mem.1 hy
 have := hz i hi
 exact ⟨by rw [size_key]; exact this.1, this.2⟩
theorem open_RdW {t e V Z F G S E : TypeId} {f0 f1 g0 g1 : Field} {fuel : Nat} {cs : List Value} {x : DataW H × List MemPlace} (ht : P.underlying t = some (.slice e)) (he : P.underlying e = some (.struct #[f0, f1]))
  (ce : P.cellsOf e = 2) (h0 : f0.offset = 0 ∧ f0.type = V) (h1 : f1.offset = 1 ∧ f1.type = F) (cV : P.cellsOf V = 1) (cF : P.cellsOf F = 1) (hV : P.underlying V = some (.slice Z)) (hZ : P.underlying Z = some (.int .i64)) (cZ : P.cellsOf Z = 1)
  (hF : P.underlying F = some (.slice G)) (hG : P.underlying G = some (.struct #[g0, g1])) (cG : P.cellsOf G = 2) (k0 : g0.offset = 0 ∧ g0.type = S) (k1 : g1.offset = 1 ∧ g1.type = E) (cS : P.cellsOf S = 1) (cE : P.cellsOf E = 1) (hS : P.underlying S = some .string) (hE : P.underlying E = some (.int .i64))
  (h : DataW.trod enc P w base spare held fuel t cs = some x) : ∃ a n c T, cs = [.slice a n c] ∧ RdW w a n c T ∧ SzW T := by
 obtain ⟨o0, t0⟩ := h0
 obtain ⟨o1, t1⟩ := h1
 rcases open_slice_pairs ht he ce o0 o1 (by rw [t0]; exact cV) (by rw [t1]; exact cF) h with ⟨rfl, _⟩ | ⟨ad, len, cap, m, n, V0, V1, D0, D1, P0, P1, rfl, _, hl, hm, hmm, _, hx⟩
 ·exact ⟨none, 0, 0, [], rfl, ⟨rfl, Nat.le_refl _, by omega, fun _ => rfl, .inl rfl⟩, fun z hz => by cases hz⟩
 have hlm : len ≤ m := by rw [hmm]; split <;> omega
 have each : ∀ i, i < m → ∃ q : List Int × SL, ∃ a1 n1 c1 a2 n2 c2, V0 i = .slice a1 n1 c1 ∧ V1 i = .slice a2 n2 c2 ∧ Rd3 w a1 n1 c1 q.1 ∧ RdP w a2 n2 c2 q.2 ∧ (∀ x ∈ q.1, (Lit.int .i64 x).wf = true) ∧ SzS q.2 := by
  intro i hi
  obtain ⟨_, _, h2, h3⟩ := hx i hi
  rw [t0] at h2
  rw [t1] at h3
  obtain ⟨a1, n1, c1, L, e1, r1, s1⟩ := open_Rd3 hV hZ cZ h2
  obtain ⟨a2, n2, c2, M, e2, r2, s2⟩ := open_RdP hF hG cG k0 k1 cS cE hS hE h3
  simp only [List.cons.injEq, and_true] at e1 e2
  exact ⟨(L, M), a1, n1, c1, a2, n2, c2, e1, e2, r1, r2, s1, s2⟩
 obtain ⟨q, hq⟩ : ∃ q : Nat → List Int × SL, ∀ i, i < m → ∃ a1 n1 c1 a2 n2 c2, V0 i = .slice a1 n1 c1 ∧ V1 i = .slice a2 n2 c2 ∧ Rd3 w a1 n1 c1 (q i).1 ∧ RdP w a2 n2 c2 (q i).2 ∧ (∀ x ∈ (q i).1, (Lit.int .i64 x).wf = true) ∧ SzS (q i).2 := by
  refine ⟨fun i => if h : i < m then (each i h).choose else ([], []), fun i hi => ?_⟩
  simp only [dif_pos hi]
  exact (each i hi).choose_spec
 refine ⟨some ad, len, cap, (List.range len).map q, rfl, ⟨by simp, hl, by unfold maxLen at hm; omega, (fun k => by cases k), ?_⟩, fun r hr => ?_⟩
 ·by_cases hz : len = 0
  ·exact .inl hz
  have hs : ad.spot = none := by
   have := World.cell?_spot (hx 0 (by omega)).1
   simpa [Addr.add] using this
  refine .inr ⟨ad.block, ad.off, by rw [← hs], fun i r hr => ?_⟩
  have hi : i < len := by
   rcases Nat.lt_or_ge i len with k | k
   ·exact k
   rw [List.getElem?_eq_none (by simpa using k)] at hr; cases hr
  rw [List.getElem?_map, List.getElem?_range hi] at hr
  simp only [Option.map_some, Option.some.injEq] at hr
  subst hr
  obtain ⟨c0, c1, _, _⟩ := hx i (by omega)
  rw [add_flat hs] at c0 c1
  obtain ⟨a1, n1, cc1, a2, n2, cc2, e1, e2, r1, r2, _, _⟩ := hq i (by omega)
  exact ⟨a1, n1, cc1, a2, n2, cc2, by rw [c0, e1], by rw [← Nat.add_assoc] at c1; rw [c1, e2], r1, r2⟩
 obtain ⟨i, hi, rfl⟩ := List.mem_map.1 hr
 rw [List.mem_range] at hi
 obtain ⟨_, _, _, _, _, _, _, _, _, _, s1, s2⟩ := hq i (by omega)
 exact ⟨s1, s2⟩
theorem open_RdWs {t e N tt ee V Z F G S E : TypeId} {h0 h1 f0 f1 g0 g1 : Field} {fuel : Nat} {cs : List Value} {x : DataW H × List MemPlace}
  (ht : P.underlying t = some (.slice e)) (he : P.underlying e = some (.struct #[h0, h1])) (ce : P.cellsOf e = 2) (i0 : h0.offset = 0 ∧ h0.type = N) (i1 : h1.offset = 1 ∧ h1.type = tt) (cN : P.cellsOf N = 1) (ctt : P.cellsOf tt = 1) (hN : P.underlying N = some (.int .i64))
  (htt : P.underlying tt = some (.slice ee)) (hee : P.underlying ee = some (.struct #[f0, f1]))
  (cee : P.cellsOf ee = 2) (j0 : f0.offset = 0 ∧ f0.type = V) (j1 : f1.offset = 1 ∧ f1.type = F) (cV : P.cellsOf V = 1) (cF : P.cellsOf F = 1) (hV : P.underlying V = some (.slice Z)) (hZ : P.underlying Z = some (.int .i64)) (cZ : P.cellsOf Z = 1)
  (hF : P.underlying F = some (.slice G)) (hG : P.underlying G = some (.struct #[g0, g1])) (cG : P.cellsOf G = 2) (k0 : g0.offset = 0 ∧ g0.type = S) (k1 : g1.offset = 1 ∧ g1.type = E) (cS : P.cellsOf S = 1) (cE : P.cellsOf E = 1) (hS : P.underlying S = some .string) (hE : P.underlying E = some (.int .i64))
  (h : DataW.trod enc P w base spare held fuel t cs = some x) : ∃ a n c Ts, cs = [.slice a n c] ∧ RdWs w a n c Ts ∧ SzWs Ts := by
 obtain ⟨o0, t0⟩ := i0
 obtain ⟨o1, t1⟩ := i1
 rcases open_slice_pairs ht he ce o0 o1 (by rw [t0]; exact cN) (by rw [t1]; exact ctt) h with ⟨rfl, _⟩ | ⟨ad, len, cap, m, n, V0, V1, D0, D1, P0, P1, rfl, _, hl, hm, hmm, _, hx⟩
 ·exact ⟨none, 0, 0, [], rfl, ⟨rfl, Nat.le_refl _, by omega, fun _ => rfl, .inl rfl⟩, fun z hz => by cases hz⟩
 have hlm : len ≤ m := by rw [hmm]; split <;> omega
 have each : ∀ i, i < m → ∃ q : Int × Tbl SL, ∃ a1 n1 c1, V0 i = .int .i64 q.1 ∧ V1 i = .slice a1 n1 c1 ∧ RdW w a1 n1 c1 q.2 ∧ (Lit.int .i64 q.1).wf = true ∧ SzW q.2 := by
  intro i hi
  obtain ⟨_, _, h2, h3⟩ := hx i hi
  rw [t0] at h2
  rw [t1] at h3
  obtain ⟨p, e1, _, w1⟩ := DataW.trod_int hN h2
  obtain ⟨a2, n2, c2, M, e2, r2, s2⟩ := open_RdW htt hee cee j0 j1 cV cF hV hZ cZ hF hG cG k0 k1 cS cE hS hE h3
  simp only [List.cons.injEq, and_true] at e1 e2
  exact ⟨(p, M), a2, n2, c2, e1, e2, r2, w1, s2⟩
 obtain ⟨q, hq⟩ : ∃ q : Nat → Int × Tbl SL, ∀ i, i < m → ∃ a1 n1 c1, V0 i = .int .i64 (q i).1 ∧ V1 i = .slice a1 n1 c1 ∧ RdW w a1 n1 c1 (q i).2 ∧ (Lit.int .i64 (q i).1).wf = true ∧ SzW (q i).2 := by
  refine ⟨fun i => if h : i < m then (each i h).choose else (0, []), fun i hi => ?_⟩
  simp only [dif_pos hi]
  exact (each i hi).choose_spec
 refine ⟨some ad, len, cap, (List.range len).map q, rfl, ⟨by simp, hl, by unfold maxLen at hm; omega, (fun k => by cases k), ?_⟩, fun r hr => ?_⟩
 ·by_cases hz : len = 0
  ·exact .inl hz
  have hs : ad.spot = none := by
   have := World.cell?_spot (hx 0 (by omega)).1
   simpa [Addr.add] using this
  refine .inr ⟨ad.block, ad.off, by rw [← hs], fun i r hr => ?_⟩
  have hi : i < len := by
   rcases Nat.lt_or_ge i len with k | k
   ·exact k
   rw [List.getElem?_eq_none (by simpa using k)] at hr; cases hr
  rw [List.getElem?_map, List.getElem?_range hi] at hr
  simp only [Option.map_some, Option.some.injEq] at hr
  subst hr
  obtain ⟨c0, c1, _, _⟩ := hx i (by omega)
  rw [add_flat hs] at c0 c1
  obtain ⟨a1, n1, cc1, e1, e2, r1, _, _⟩ := hq i (by omega)
  exact ⟨a1, n1, cc1, by rw [c0, e1], by rw [← Nat.add_assoc] at c1; rw [c1, e2], r1⟩
 obtain ⟨i, hi, rfl⟩ := List.mem_map.1 hr
 rw [List.mem_range] at hi
 obtain ⟨_, _, _, _, _, _, s1, s2⟩ := hq i (by omega)
 exact ⟨s1, s2⟩
end
end Go.Firn
namespace Go.Proofs.YtehdemcfeoiecaaGreatDoor
open Go.RowKit Go.Firn Go.Firn.Tb
theorem RdW.of_rows {w0 w : World} {a : Option Addr} {n c : Nat} {raw : List RW.Rw} {T : Tbl SL} (h : RW.RdR w a n c raw) (hd : RW.Dat w0 w raw T) : RdW w a n c T := by
 obtain ⟨h1, h2, h3, h4, h5⟩ := h
 refine ⟨h1.trans hd.1, h2, h3, h4, ?_⟩
 rcases h5 with h5 | ⟨b, o, ha, hc⟩
 ·exact .inl h5
 refine .inr ⟨b, o, ha, fun i r hr => ?_⟩
 have hi : i < raw.length := by
  rw [hd.1]
  rcases Nat.lt_or_ge i T.length with q | q
  ·exact q
  rw [List.getElem?_eq_none q] at hr; cases hr
 have hx := List.getElem?_eq_getElem hi
 obtain ⟨c0, c1⟩ := hc i _ hx
 obtain ⟨d1, _, d3⟩ := hd.2 i _ r hx hr
 exact ⟨_, _, _, _, _, _, c0, c1, d1, d3.1⟩
def wideR (Ts : List (Int × Tbl SL)) (q : Key) : Except Int Int := if vTabs Ts = true then match qry (wsOf Ts) q with
  | none => .error 91
  | some x => .ok x.2
 else .error 90
theorem qry_wide {Ts : List (Int × Tbl SL)} {q : Key} {x : List Wd × Int} (hv : vTabs Ts = true) (h : qry (wsOf Ts) q = some x) : 1 ≤ x.2 ∧ x.2 ≤ 4 := by
 unfold qry at h
 split at h
 ·cases h
 rename_i y hy
 split at h
 ·rename_i hl
  cases h
  exact (planQ_bd (ws_14 hv).1 hy W14.nil).1.at (i := 0) (by omega)
 cases h
def RetWd (r : Except Int Int) (w : World) (e : Ending) (w' : World) : Prop := match r with
 | .error E => e = .returned (.tuple #[.int .i64 0, .int .i64 E]) ∧ Gr w w'
 | .ok x => e = .returned (.tuple #[.int .i64 x, .int .i64 0]) ∧ Gr w w'
theorem Wide_any (a : Option Addr) (n c : Nat) (Ts : List (Int × Tbl SL)) (q : ByteArray) (w : World) (hr : RdWs w a n c Ts) (hz : SzWs Ts) (hq : q.size ≤ 9223372036854775807) (hT : Pow10 w) (hE : Errs w) :
  Calls Tryz.prog 20 #[.slice a n c, .string q] w (RetWd (wideR Ts q.data.toList) w) := by
 have C22 := Lh (Valid_any a n c Ts w hr hz)
 cases hv : vTabs Ts with
 | false =>
  have hw : wideR Ts q.data.toList = .error 90 := by unfold wideR; rw [if_neg (by rw [hv]; decide)]
  rw [hw]
  rw [hv] at C22
  clear hr hz hq hT hE hv hw
  go_enter Tryz.func20, Tryz.ntmps20
  go_wp2_with (go_at_call 22; (refine C22.out.mono ?_); rintro e w1 ⟨rfl, g1⟩; have G1 := Lh g1; clear g1)
  refine bodyPost_ret (v := .tuple #[.int .i64 0, .int .i64 90]) (by simp [results, Tryz.results20, go_sem]) rfl ?_
  exact ⟨rfl, G1.out⟩
 | true =>
  rw [hv] at C22
  have C55 := Lh (fun W (k : Gr w W) => plan_any a n c Ts q W (hr.gr k) hv hq (hT.gr k) (hE.gr k))
  clear hr hz hq hT hE
  cases hQ : qry (wsOf Ts) q.data.toList with
  | none =>
   have hw : wideR Ts q.data.toList = .error 91 := by unfold wideR; rw [if_pos hv, hQ]
   rw [hw]
   rw [hQ] at C55
   clear hv hQ hw
   go_enter Tryz.func20, Tryz.ntmps20
   go_wp2_with (first
    | (go_at_call 22; (refine C22.out.mono ?_); rintro e w1 ⟨rfl, g1⟩; have G1 := Lh g1; clear g1 C22)
    | (go_at_call 55; (refine (C55.out _ G1.out).mono ?_); rintro e w2 ⟨a, n, c, W, ok, rfl, g2, rfl⟩; have G2 := Lh g2; clear g2 C55))
   refine bodyPost_ret (v := .tuple #[.int .i64 0, .int .i64 91]) (by simp [results, Tryz.results20, go_sem]) rfl ?_
   exact ⟨rfl, G1.out.trans G2.out⟩
  | some x =>
   obtain ⟨ms, Wx⟩ := x
   have hw : wideR Ts q.data.toList = .ok Wx := by unfold wideR; rw [if_pos hv, hQ]
   rw [hw]
   rw [hQ] at C55
   clear hv hQ hw
   go_enter Tryz.func20, Tryz.ntmps20
   go_wp2_with (first
    | (go_at_call 22; (refine C22.out.mono ?_); rintro e w1 ⟨rfl, g1⟩; have G1 := Lh g1; clear g1 C22)
    | (go_at_call 55; (refine (C55.out _ G1.out).mono ?_); rintro e w2 ⟨a, n, c, W, ok, rfl, g2, rfl, rfl, rfl, h2⟩; have G2 := Lh g2; clear g2 h2 C55))
   refine bodyPost_ret (v := .tuple #[.int .i64 W, .int .i64 0]) (by simp [results, Tryz.results20, go_sem]) rfl ?_
   exact ⟨rfl, G1.out.trans G2.out⟩
namespace provWides
def RetOk (w : World) (e : Ending) (w' : World) : Prop := e = .returned (.bool true) ∧ Gr w w'
theorem walk (a : Option Addr) (n c : Nat) (Ts : List (Int × Tbl SL)) (q : ByteArray) (w : World) (hr : RdWs w a n c Ts) (hz : SzWs Ts) (hq : q.size ≤ 9223372036854775807) (hT : Pow10 w) (hE : Errs w) :
  Calls Tryz.prog 5 #[.slice a n c, .string q] w (RetOk w) := by
 have C9 := Lh (Wide_some a n c Ts w hr)
 have C10 := Lh (fun W => many_any q none 0 0 W)
 have C11 := Lh Awake_any
 have C20 := Lh (fun W (k : Gr w W) => Wide_any a n c Ts q W (hr.gr k) hz hq (hT.gr k) (hE.gr k))
 have C18 := Lh (fun W (k : Gr w W) => Ask_any a n c Ts q W (hr.gr k) hz hq (hT.gr k) (hE.gr k))
 have C23 := Lh (fun W (k : Gr w W) => refValid_any a n c Ts W (hr.gr k) hz)
 generalize (decide (300 < q.size) || decide (100 < 0)) = bm at *
 clear hr hz hq hT hE
 cases bm with
 | true =>
  clear C20 C18 C23
  go_enter Tryz.func5, Tryz.ntmps5
  go_wp2_with (first
   | (go_at_call 9; (refine C9.out.mono ?_); rintro e w1 ⟨b, rfl, g1⟩; have G1 := Lh g1; clear g1; cases b)
   | (go_at_call 10; (refine (C10.out _).mono ?_); rintro e w2 ⟨rfl, g2⟩; have G2 := Lh (G1.out.trans g2); clear g2 G1; have G1 := G2)
   | (go_at_call 11; (refine (C11.out _).mono ?_); rintro e w3 ⟨rfl, g3⟩; have G3 := Lh (G1.out.trans g3); clear g3))
  all_goals (go_ret; exact ⟨rfl, G3.out⟩)
 | false =>
  cases hv : vTabs Ts with
  | false =>
   have h1 : wideR Ts q.data.toList = .error 90 := by unfold wideR; rw [if_neg (by rw [hv]; decide)]
   have h2 : resQ RgS (fun L => L) true Ts q.data.toList = .error 90 := by unfold resQ; rw [if_neg (by rw [hv]; decide)]
   rw [h1] at C20
   rw [h2] at C18
   rw [hv] at C23
   clear h1 h2 hv
   go_enter Tryz.func5, Tryz.ntmps5
   go_wp2_with (first
    | (go_at_call 9; (refine C9.out.mono ?_); rintro e w1 ⟨b, rfl, g1⟩; have G1 := Lh g1; clear g1 C9; cases b)
    | (go_at_call 10; (refine (C10.out _).mono ?_); rintro e w2 ⟨rfl, g2⟩; have G2 := Lh (G1.out.trans g2); clear g2 C10)
    | (go_at_call 20; (refine (C20.out _ G2.out).mono ?_); rintro e w3 ⟨rfl, g3⟩; have G3 := Lh (G2.out.trans g3); clear g3 C20)
    | (go_at_call 18; (refine (C18.out _ G3.out).mono ?_); rintro e w4 ⟨rfl, g4⟩; have G4 := Lh (G3.out.trans g4); clear g4 C18)
    | (go_at_call 23; (refine (C23.out _ (G4.out.trans ((Gr.refl w4).alloc _))).mono ?_); rintro e w5 ⟨rfl, g5⟩; have G5 := Lh ((G4.out.trans ((Gr.refl w4).alloc _)).trans g5); clear g5 C23)
    | (go_at_call 11; (refine (C11.out _).mono ?_); rintro e w9 ⟨rfl, g9⟩; have G9 := Lh g9; clear g9))
   all_goals (go_ret; first | exact ⟨rfl, G5.out.trans G9.out⟩ | exact ⟨rfl, G1.out.trans G9.out⟩)
  | true =>
   rw [hv] at C23
   cases hQ : qry (wsOf Ts) q.data.toList with
   | none =>
    have h1 : wideR Ts q.data.toList = .error 91 := by unfold wideR; rw [if_pos hv, hQ]
    have h2 : resQ RgS (fun L => L) true Ts q.data.toList = .error 91 := by unfold resQ; rw [if_pos hv, hQ]
    rw [h1] at C20
    rw [h2] at C18
    clear h1 h2 hv hQ
    go_enter Tryz.func5, Tryz.ntmps5
    go_wp2_with (first
     | (go_at_call 9; (refine C9.out.mono ?_); rintro e w1 ⟨b, rfl, g1⟩; have G1 := Lh g1; clear g1 C9; cases b)
     | (go_at_call 10; (refine (C10.out _).mono ?_); rintro e w2 ⟨rfl, g2⟩; have G2 := Lh (G1.out.trans g2); clear g2 C10)
     | (go_at_call 20; (refine (C20.out _ G2.out).mono ?_); rintro e w3 ⟨rfl, g3⟩; have G3 := Lh (G2.out.trans g3); clear g3 C20)
     | (go_at_call 18; (refine (C18.out _ G3.out).mono ?_); rintro e w4 ⟨rfl, g4⟩; have G4 := Lh (G3.out.trans g4); clear g4 C18)
     | (go_at_call 23; (refine (C23.out _ (G4.out.trans ((Gr.refl w4).alloc _))).mono ?_); rintro e w5 ⟨rfl, g5⟩; have G5 := Lh ((G4.out.trans ((Gr.refl w4).alloc _)).trans g5); clear g5 C23)
     | (go_at_call 11; (refine (C11.out _).mono ?_); rintro e w9 ⟨rfl, g9⟩; have G9 := Lh g9; clear g9))
    all_goals (go_ret; first | exact ⟨rfl, G5.out.trans G9.out⟩ | exact ⟨rfl, G1.out.trans G9.out⟩)
   | some x =>
    obtain ⟨ms, Wx⟩ := x
    obtain ⟨i1, i2⟩ := qry_wide hv hQ
    have h1 : wideR Ts q.data.toList = .ok Wx := by unfold wideR; rw [if_pos hv, hQ]
    rw [h1] at C20
    cases hA : ansQ RgS (tabsOf (fun L => L) Ts) ms with
    | none =>
     have h2 : resQ RgS (fun L => L) true Ts q.data.toList = .error 4 := by unfold resQ; rw [if_pos hv, hQ]; simp [hA]
     rw [h2] at C18
     clear h1 h2 hv hQ hA C23
     have i3 : (1 ≤ Wx) := i1
     go_enter Tryz.func5, Tryz.ntmps5
     go_wp2_with (first
      | (go_at_call 9; (refine C9.out.mono ?_); rintro e w1 ⟨b, rfl, g1⟩; have G1 := Lh g1; clear g1 C9; cases b)
      | (go_at_call 10; (refine (C10.out _).mono ?_); rintro e w2 ⟨rfl, g2⟩; have G2 := Lh (G1.out.trans g2); clear g2 C10)
      | (go_at_call 20; (refine (C20.out _ G2.out).mono ?_); rintro e w3 ⟨rfl, g3⟩; have G3 := Lh (G2.out.trans g3); clear g3 C20)
      | (go_at_call 18; (refine (C18.out _ G3.out).mono ?_); rintro e w4 ⟨rfl, g4⟩; have G4 := Lh (G3.out.trans g4); clear g4 C18)
      | (go_at_call 11; (refine (C11.out _).mono ?_); rintro e w9 ⟨rfl, g9⟩; have G9 := Lh g9; clear g9))
     all_goals (go_ret; first | exact ⟨rfl, (G4.out.trans ((Gr.refl w4).alloc _)).trans G9.out⟩ | exact ⟨rfl, G1.out.trans G9.out⟩)
    | some T =>
     have h2 : resQ RgS (fun L => L) true Ts q.data.toList = .ok (T, Wx) := by unfold resQ; rw [if_pos hv, hQ]; simp [hA]
     have hva := ans_valid h2
     have hvs : vTabs [(Wx, T)] = true := vTabs_iff.2 ⟨fun x hx => by simp only [List.mem_singleton] at hx; subst hx; exact hva, by simp⟩
     have C23 := Lh (fun (W : World) (b : Nat) a n c (k0 : W.cell? ⟨b, 0, none⟩ = some (.int .i64 Wx)) (k1 : W.cell? ⟨b, 1, none⟩ = some (.slice a n c)) (k : RdW W a n c T) => hvs ▸ refValid_any (some ⟨b, 0, none⟩) 1 1 [(Wx, T)] W (RdWs.one k0 k1 k) (SzWs.one hva))
     rw [h2] at C18
     clear h1 h2 hv hQ hA hva hvs
     go_enter Tryz.func5, Tryz.ntmps5
     go_wp2_with (first
      | (go_at_call 9; (refine C9.out.mono ?_); rintro e w1 ⟨b, rfl, g1⟩; have G1 := Lh g1; clear g1 C9; cases b)
      | (go_at_call 10; (refine (C10.out _).mono ?_); rintro e w2 ⟨rfl, g2⟩; have G2 := Lh (G1.out.trans g2); clear g2 C10)
      | (go_at_call 20; (refine (C20.out _ G2.out).mono ?_); rintro e w3 ⟨rfl, g3⟩; have G3 := Lh (G2.out.trans g3); clear g3 C20)
      | (go_at_call 18; (refine (C18.out _ G3.out).mono ?_); rintro e w4 ⟨v, raw, rfl, ho, hd⟩; have G4 := Lh (G3.out.trans ho.2); obtain ⟨va, vc, rfl, hrd⟩ := ho.rd; have HW := Lh (RdW.of_rows hrd hd); clear ho hd hrd C18)
      | (go_at_call 23; (refine (C23.out _ _ va raw.length vc (by simp) (by simp) (HW.out.gr (((Gr.refl w4).alloc _).alloc _))).mono ?_); rintro e w5 ⟨rfl, g5⟩; have G5 := Lh ((G4.out.trans (((Gr.refl w4).alloc _).alloc _)).trans g5); clear g5 C23)
      | (go_at_call 11; (refine (C11.out _).mono ?_); rintro e w9 ⟨rfl, g9⟩; have G9 := Lh g9; clear g9))
     all_goals (go_ret; first | exact ⟨rfl, G5.out.trans G9.out⟩ | exact ⟨rfl, G1.out.trans G9.out⟩)
end provWides
end Go.Proofs.YtehdemcfeoiecaaGreatDoor
namespace Go.Firn
end Go.Firn
namespace Go.Proofs.YtehdemcfeoiecaaGreatDoor
open Go.ChangeShapes Go.WideShapes Go.ChangeAt Go.RowKit Go.Firn
theorem laidOut : laidOutB Tryz.prog = true := by kernel_rfl
def fillObj (zs : List Nat) : Obj → Obj
 | .cells _ t frozen => .cells (zs.map fun x : Nat => Value.int .u8 (x : Int)).toArray t frozen
 | o => o
def accZ : List Nat := [128, 191, 160, 191, 128, 159, 144, 191, 128, 143]
theorem gES : Tryz.prog.globalNamed "strconv.ErrSyntax" = some 3 := by kernel_rfl
theorem gESType : (Tryz.prog.globals[3]?).map (·.type) = some 170 := by kernel_rfl
theorem gER : Tryz.prog.globalNamed "strconv.ErrRange" = some 4 := by kernel_rfl
theorem gERType : (Tryz.prog.globals[4]?).map (·.type) = some 170 := by kernel_rfl
theorem cells284 : Tryz.prog.cellsOf 284 = 1 := by kernel_rfl
theorem cells9 : Tryz.prog.cellsOf 9 = 1 := by kernel_rfl
theorem starE : "*" ++ "errors.errorString" = "*errors.errorString" := by decide
theorem row282 (u : TypeId) (h : Tryz.prog.typeName? 3 u = some "*errors.errorString") : u = 282 :=
 typeName_ptr_named (nm := "errors.errorString") (by rw [starE]; kernel_rfl) (by kernel_rfl) (by decide) u (by rw [starE]; exact h)
theorem errs_of {W : World} (h : laidMetH Tryz.prog Rows.provCountsRow.laid W) : Errs W := by
 obtain ⟨a0, s0, hv0, -, -, -⟩ := laid_sentinel (r := []) (laidMetH.filter (fun x => x.1 == "strconv.ErrSyntax") h) gES gESType Tryz.underlying170 row282 Tryz.underlying282 Tryz.underlying284 rfl rfl Tryz.underlying9 cells284 cells9
 obtain ⟨a1, s1, hv1, -, -, -⟩ := laid_sentinel (r := []) (laidMetH.filter (fun x => x.1 == "strconv.ErrRange") h) gER gERType Tryz.underlying170 row282 Tryz.underlying282 Tryz.underlying284 rfl rfl Tryz.underlying9 cells284 cells9
 rintro g (rfl | rfl)
 ·exact ⟨_, by have h0 := World.var?_cell gES hv0 0; simpa using h0, .inr ⟨_, _, rfl⟩⟩
 exact ⟨_, by have h0 := World.var?_cell gER hv1 0; simpa using h0, .inr ⟨_, _, rfl⟩⟩
abbrev textES : ByteArray := { data := #[105, 110, 118, 97, 108, 105, 100, 32, 115, 121, 110, 116, 97, 120] }
abbrev textER : ByteArray := { data := #[118, 97, 108, 117, 101, 32, 111, 117, 116, 32, 111, 102, 32, 114, 97, 110, 103, 101] }
noncomputable def low : Nat := (World.holding Tryz.prog default ⟨#[], #[], []⟩).heap.size
def db32 : List Nat := [0, 1, 28, 2, 29, 14, 24, 3, 30, 22, 20, 15, 25, 17, 4, 8, 31, 27, 13, 23, 21, 19, 16, 7, 26, 12, 18, 6, 11, 5, 10, 9]
def db64 : List Nat := [0, 1, 56, 2, 57, 49, 28, 3, 61, 58, 42, 50, 38, 29, 17, 4, 62, 47, 59, 36, 45, 43, 51, 22, 53, 39, 33, 30, 24, 18, 12, 5, 63, 55, 48, 27, 60, 41, 37, 16, 46, 35, 44, 21, 52, 32, 23, 11, 54, 26, 40, 15, 34, 20, 31, 10, 25, 14, 19, 9, 13, 8, 7, 6]
def fillU64 (zs : List Int) : Obj → Obj
 | .cells _ t frozen => .cells (zs.map fun x => Value.int .u64 x).toArray t frozen
 | o => o
def fillErr (b : Nat) : Obj → Obj
 | .cells _ t frozen => .cells #[.iface 282 (.pointer (some ⟨b, 0, none⟩))] t frozen
 | o => o
noncomputable def laidWorldT (os : Os) : World :=
 let w0 := World.holding Tryz.prog os ⟨#[.cells #[.string textES] 284, .cells #[.string textER] 284], #[], []⟩
 { w0 with heap := ((((((w0.heap.modify 1 (fillObj Go.Pinned.utf8FirstZ)).modify 2 (fillObj (accZ ++ List.replicate 22 0))).modify 3 (fillErr low)).modify 4 (fillErr (low + 1))).modify 5 (fillU64 Lib.pow10Tab)).modify 6 (fillObj db32)).modify 7 (fillObj db64) }
end Go.Proofs.YtehdemcfeoiecaaGreatDoor
namespace Go.Proofs.YtehdemcfeoiecaaGreatDoor.provWides
open Go.ChangeShapes Go.WideShapes Go.ChangeAt Go.RowKit Go.Firn Go.Firn.Tb
theorem contract (H : Type) (enc : TypeId × Value → H) (W : World) (base : Nat) (args : Array Value) (ds gs : List (DataW H)) (before : List MemPlace)
  (hval0 : ∀ (j : Nat) t v, Tryz.f5.params[j]? = some t → args[j]? = some v → Value.okWide Tryz.prog W .any base t v)
  (hW : DataW.Whole enc Tryz.prog Tryz.f5.params.toList Rows.provWidesSpec.vars false W args.toList ds gs before) (hL : laidMetH Tryz.prog Rows.provWidesRow.laid W) :
  Calls Tryz.prog 5 args W fun e W' => ∃ v, e = .returned v ∧ Rows.provWidesSpec.post enc Tryz.prog Tryz.f5 false true false false W args v W' := by
 have hval : ∀ (j : Nat) t v, Tryz.f5.params[j]? = some t → args[j]? = some v → Value.okWide Tryz.prog W .any base t v := hval0
 have hW' := hW
 obtain ⟨p, q, hA0, hV, rfl, hfz, hnd⟩ := hW
 have hA : DataW.TrodAll enc Tryz.prog W 0 (fun _ => true) true Tryz.f5.params.toList args.toList ds p := hA0
 rw [Tryz.params5] at hA hval
 obtain ⟨v0, vs0, d0, ds0, p0, q0, hargs, rfl, rfl, h0, r0⟩ := trodAll_cons hA
 obtain ⟨v1, vs1, d1, ds1, p1, q1, rfl, rfl, rfl, h1, r1⟩ := trodAll_cons r0
 obtain ⟨rfl, rfl, rfl⟩ := trodAll_nil r1
 obtain rfl : args = #[v0, v1] := by cases args; simp_all
 obtain ⟨rfl, rfl⟩ := trodVars_none hV
 obtain ⟨a0, len0, cap0, rfl⟩ := okWide_slice Tryz.underlying22 (hval 0 22 v0 rfl rfl)
 have k0 := h0
 have lt0 : ∀ x ∈ p0, x.block < W.heap.size := by obtain ⟨m, hm⟩ := k0; exact DataW.trod_lt m _ _ _ hm
 obtain ⟨t0, wr0, wz0⟩ : ∃ Ts, RdWs W a0 len0 cap0 Ts ∧ SzWs Ts := by
  obtain ⟨fuel, hf⟩ := h0
  obtain ⟨a, n, c, Ts, hcs, hr, hz⟩ := open_RdWs Tryz.underlying22 Tryz.underlying36 (by kernel_rfl) ⟨rfl, rfl⟩ ⟨rfl, rfl⟩ (by kernel_rfl) (by kernel_rfl) Tryz.underlying3 Tryz.underlying34 Tryz.underlying52 (by kernel_rfl) ⟨rfl, rfl⟩ ⟨rfl, rfl⟩ (by kernel_rfl) (by kernel_rfl) Tryz.underlying23 Tryz.underlying3 (by kernel_rfl) Tryz.underlying50 Tryz.underlying58 (by kernel_rfl) ⟨rfl, rfl⟩ ⟨rfl, rfl⟩ (by kernel_rfl) (by kernel_rfl) Tryz.underlying9 Tryz.underlying3 hf
  simp [Value.cells] at hcs
  obtain ⟨rfl, rfl, rfl⟩ := hcs
  exact ⟨Ts, hr, hz⟩
 obtain ⟨a1, rfl, rfl, rfl, w1⟩ := Go.ChangeMaps.open_string Tryz.underlying9 (hval 1 9 v1 rfl rfl) h1
 clear hA0 hval0
 refine (walk a0 len0 cap0 t0 a1 W wr0 wz0 w1 (pow_of hL) (errs_of hL)).mono fun e W' ⟨he, bel⟩ => ?_
 subst he
 exact ⟨_, rfl, _, _, _, [], _, [], hW', trodAll_mk1 (shut_bool Tryz.underlying4 _), (trodAll_cons_mk (Below.trod laidOut (by kernel_rfl) (of_decide_eq_true (by kernel_rfl)) k0 bel lt0) (trodAll_cons_mk (Go.ChangeMaps.shut_string Tryz.underlying9 w1) trodAll_mk0)), rfl, bel.frame _, fun h => by cases h⟩
theorem met (os : Os) : laidMet Tryz.prog Rows.provWidesRow.laid ((laidWorldT os).forCall (fun _ _ => 0) ⟨#[], #[.slice none 0 0, .string ⟨#[]⟩], []⟩).memory :=
 laidMet_of_run' 8 (by kernel_rfl) (by kernel_rfl)
theorem reads (os : Os) (H : Type) (enc : TypeId × Value → H) : ∃ places, DataW.whole enc Tryz.prog ((laidWorldT os).forCall (fun _ _ => 0) ⟨#[], #[.slice none 0 0, .string ⟨#[]⟩], []⟩).memory Tryz.f5.params.toList Rows.provWidesSpec.vars false (#[.slice none 0 0, .string ⟨#[]⟩] : Array Value).toList 8 = some ([.nil, .lit (.string [])], [], places) :=
 ⟨[], by kernel_rfl⟩
theorem lifted (os : Os) (started : os.Started) (H : Type) (enc : TypeId × Value → H) (F : Stop.Interp) :
  ReturnsInHanded {} Tryz.checked os 5 .any ((OpenSpec.ofChange Rows.provWidesSpec).preRow enc Tryz.prog Tryz.f5 Rows.provWidesRow.domain false Rows.provWidesRow.laid) (((OpenSpec.ofChange Rows.provWidesSpec).at F).post enc Tryz.prog Tryz.f5 false true false false) := by
 obtain ⟨places, hx⟩ := reads os H enc
 refine returnsInHanded_of_row (C := Tryz.checked) (s := OpenSpec.ofChange Rows.provWidesSpec) own started (by kernel_rfl) Tryz.func5
  (witness_row_at (enc := enc) (C := Tryz.checked) false (laidWorldT os) #[.slice none 0 0, .string ⟨#[]⟩] rfl (by kernel_rfl) (by kernel_rfl) (by kernel_rfl)
   (OpenSpec.preRow_of_cond 8 hx (by kernel_rfl) (fun k hk => by cases hk) (by kernel_rfl) (met os))) ?_
 intro W base args ds gs before hval hW _ _ _ hL _ _
 exact contract H enc W base args ds gs before hval hW hL
theorem said : Rows.ProvWidesSaid :=
 OpenClaim.holds_of_cond 5 Tryz.f5 rfl rfl rfl rfl rfl rfl rfl ⟨rfl, rfl, rfl, rfl, rfl⟩ rfl rfl rfl rfl rfl (by kernel_rfl) Tryz.func5 (by kernel_rfl)
  (of_decide_eq_true (by kernel_rfl)) (by unfold Func.isWrapper; first | (rw [if_pos (by decide +kernel)]; kernel_rfl) | (rw [if_neg (by decide +kernel)]; exact ⟨rfl, rfl⟩))
  (fun os started H enc _ F => by rw [OpenClaim.pre_eq_preRow]; exact lifted os started H enc F)
theorem plain (f : FuncId) (fn : Func) (hf : Tryz.pinned.checked.prog.funcNamed Rows.provWidesRow.func = some f) (hfn : Tryz.pinned.checked.prog.funcs[f]? = some fn) :
  true = Tryz.pinned.checked.prog.looks [] ∧ ∀ (j : Nat) t, fn.params[j]? = some t → Tryz.pinned.checked.prog.wantsStandIn t = false := by
 obtain rfl : f = 5 := Option.some.inj ((show Tryz.prog.funcNamed Rows.provWidesRow.func = some 5 by kernel_rfl).symm.trans hf) |>.symm
 obtain rfl : fn = Tryz.f5 := (Option.some.inj (Tryz.func5.symm.trans hfn)).symm
 refine ⟨by kernel_rfl, fun j t ht => ?_⟩
 rw [Tryz.params5] at ht
 have hm : t ∈ (#[22, 9] : Array TypeId) := Array.mem_of_getElem? ht
 simp only [List.mem_toArray, List.mem_cons, List.not_mem_nil, or_false] at hm
 rcases hm with rfl | rfl
 all_goals first
  | exact (show Tryz.prog.wantsStandIn 22 = false by kernel_rfl)
  | exact (show Tryz.prog.wantsStandIn 9 = false by kernel_rfl)
theorem proved : Rows.ProvWidesCardSaid :=
 Claim7.holds_tied_plain_at .later [] _ _ _ _ said (fun _ h => by cases h) (by kernel_rfl) (fun _ h => by cases h) provWides_row_tie rfl ⟨rfl, rfl⟩ (by kernel_rfl) rfl plain (by kernel_rfl)
end Go.Proofs.YtehdemcfeoiecaaGreatDoor.provWides
