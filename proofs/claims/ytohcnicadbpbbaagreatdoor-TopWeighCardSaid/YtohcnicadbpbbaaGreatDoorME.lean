/- DERIVED: THE SHELF's CONTRACTS AT THIS DUMP, IN PLAIN WORDS (tools/lay-plain.mjs out of 'YtohcnicadbpbbaaGreatDoorShelf.lean', which tools/lay-shelf.mjs wrote): THE SAME DECLARATIONS UNDER THE SAME NAMES: 'import', 'namespace', 'open', 'def', 'theorem' AND NOTHING ELSE: no command of the shelf's: FOR A HAND-IN. Each laying: the table of numbers ('.._ren') and one theorem, a field a fact of the dump's own or the kernel's comparison; each contract: ONE APPLICATION. Contracts of chapter 7: slices.Clone, slices.Delete of one, and the weights behind a merge. Contracts of chapter 7: the weights behind a merge. Contracts of chapter 7: the odds behind a merge. Contracts of chapter 7: the swapped odds, the odds of two observations; which lists and which odds are the same. -/
import Derived.Ground.Names2Prog
import Derived.Shelf.Slices.Clone
import Derived.Shelf.Slices.Delete
import Derived.Test.YtohcnicadbpbbaaGreatDoorProg
import Derived.Test.YtohcnicadbpbbaaGreatDoorMD
import Derived.Sort.OwnSortedInts
import Derived.Deep.AppendSrc
namespace Go.Proofs
open Go.Shelf
def Tryz.clone15_ren : Go.Shelf.Ren := ⟨fun | 15 => 28 | n => n, fun | 22 => 22 | 3 => 3 | 4 => 4 | n => n, fun | n => n⟩
theorem Tryz.clone15 : Go.Proofs.Lays2.n15 Tryz.prog Tryz.clone15_ren := {
  mixed := by kernel_rfl
  f15 := Tryz.func28.trans (congrArg some (by kernel_rfl))
  t3 := Tryz.underlying3
  a3 := Tryz.isAgg3
  z3 := Tryz.sizeOf3
  v3 := Tryz.zeroValue3
  t4 := Tryz.underlying4
  a4 := Tryz.isAgg4
  z4 := Tryz.sizeOf4
  v4 := Tryz.zeroValue4
  t22 := Tryz.underlying22
  a22 := Tryz.isAgg22
  z22 := Tryz.sizeOf22
  v22 := Tryz.zeroValue22
  i3 := by kernel_rfl }
def Tryz.del23_ren : Go.Shelf.Ren := ⟨fun | 23 => 54 | n => n, fun | 22 => 22 | 3 => 3 | 4 => 4 | 0 => 0 | n => n, fun | n => n⟩
theorem Tryz.del23 : Go.Proofs.Lays2.n23 Tryz.prog Tryz.del23_ren := {
  mixed := by kernel_rfl
  f23 := Tryz.func54.trans (congrArg some (by kernel_rfl))
  t0 := Tryz.underlying0
  a0 := Tryz.isAgg0
  z0 := Tryz.sizeOf0
  v0 := Tryz.zeroValue0
  t3 := Tryz.underlying3
  a3 := Tryz.isAgg3
  z3 := Tryz.sizeOf3
  v3 := Tryz.zeroValue3
  t4 := Tryz.underlying4
  a4 := Tryz.isAgg4
  z4 := Tryz.sizeOf4
  v4 := Tryz.zeroValue4
  t22 := Tryz.underlying22
  a22 := Tryz.isAgg22
  z22 := Tryz.sizeOf22
  v22 := Tryz.zeroValue22
  i3 := by kernel_rfl }
end Go.Proofs

namespace Go.Proofs.YtohcnicadbpbbaaGreatDoor
open Go.RowKit Go.Firn Go.Sort

/-- A row of the call's own, in a new block, that may be written. -/
def RetRow (n : Nat) (f : Nat → Int) (w : World) (e : Ending) (w' : World) : Prop :=
  ∃ b c, e = .returned (.slice (some ⟨b, 0, none⟩) n c) ∧ n ≤ c ∧ c ≤ maxLen ∧ RowI w' b n f ∧ Gr w w' ∧ w.heap.size ≤ b
theorem rowI_of_owns {w : World} {base n : Nat} {v : Value} {f : Nat → Int} (h : w.ownsRow base 3 1 v n (ints n f)) (hn : 0 < n) : ∃ b c, v = .slice (some ⟨b, 0, none⟩) n c ∧ n ≤ c ∧ c ≤ maxLen ∧ base ≤ b ∧ RowI w b n f := by
  have h0 := h
  obtain ⟨hl, hv⟩ := h
  rcases hv with ⟨rfl, hz⟩ | ⟨b, cap, cur, rfl, hb, hg, hnc, hcm, hcs, htake⟩
  · omega
  · refine ⟨b, cap, rfl, hnc, hcm, hb, fun p hp => ?_⟩
    have hc := h0.cells (g := b) rfl p (.int .i64 (f p)) (by simp [ints, hp])
    have hadd : (⟨b, 0, none⟩ : Addr).add p = ⟨b, p, none⟩ := by rw [add_flat rfl]; simp
    rw [hadd] at hc
    refine ⟨hc, ?_⟩
    unfold World.frozen?
    rw [hg]
    simp
theorem ints_take (n : Nat) (f : Nat → Int) : (((List.range n).map f).take n).map (Value.int .i64) = ints n f := by
  rw [List.take_of_length_le (by simp)]
  unfold ints
  rw [List.map_map]
  rfl
theorem getD_range (f : Nat → Int) {n j : Nat} (hj : j < n) : ((List.range n).map f).getD j 0 = f j := by
  simp [List.getD_eq_getElem?_getD, hj]

theorem Clone_any (a : Option Addr) (n c : Nat) (f : Nat → Int) (w : World) (hn : 0 < n ∧ n ≤ 1000) (hr : RdI w a n f) : Calls Tryz.prog 28 #[.slice a n c] w (RetRow n f w) := by
  obtain ⟨b, o, rfl, hc⟩ := hr.at hn.1
  have h : Calls Tryz.prog 28 #[.slice (some ⟨b, o, none⟩) n c] w _ := Any.slices_Clone_int Tryz.clone15 b o n c ((List.range n).map f) w (by simp) (by omega) (fun j hj => by
    have hj' : j < n := by simpa using hj
    rw [hc j hj', getD_range f hj'])
  refine h.mono fun e w' ⟨v, e1, e2, _, e4⟩ => ?_
  rw [ints_take] at e2
  obtain ⟨b', c', rfl, l1, l2, l3, l4⟩ := rowI_of_owns e2 hn.1
  exact ⟨b', c', e1, l1, l2, l4, e4, l3⟩

theorem getD_del (F : Nat → Int) {n i p : Nat} (hi : i < n) (hp : p < n - 1) : (((List.range n).map F).take i ++ ((List.range n).map F).drop (i + 1) ++ List.replicate (i + 1 - i) 0)[p]? = some (if p < i then F p else F (p + 1)) := by
  rw [List.append_assoc]
  have l1 : (((List.range n).map F).take i).length = i := by simp; omega
  by_cases h : p < i
  · rw [List.getElem?_append_left (by omega), if_pos h, List.getElem?_take_of_lt h, List.getElem?_map, List.getElem?_range (show p < n by omega)]
    rfl
  · rw [List.getElem?_append_right (by omega), l1, if_neg h, List.getElem?_append_left (by simp; omega), List.getElem?_drop, show i + 1 + (p - i) = p + 1 by omega, List.getElem?_map, List.getElem?_range (show p + 1 < n by omega)]
    rfl
theorem Delete_any (b n c i : Nat) (F : Nat → Int) (w : World) (hi : i < n) (hn : n ≤ 1000) (hc : n ≤ c ∧ c ≤ maxLen) (hr : RowI w b n F) :
    Calls Tryz.prog 54 #[.slice (some ⟨b, 0, none⟩) n c, .int .i64 i, .int .i64 (i + 1 : Nat)] w fun e w' => e = .returned (.slice (some ⟨b, 0, none⟩) (n - 1) c) ∧ Wr b w w' ∧ RowI w' b (n - 1) (fun p => if p < i then F p else F (p + 1)) := by
  have hl : ((List.range n).map F).length = n := by simp
  have hH : Holds (Value.int .i64) w b 0 ((List.range n).map F).toArray := fun j hj => by
    have hj' : j < n := by simpa using hj
    rw [Nat.zero_add]
    refine ⟨?_, (hr j hj').2⟩
    rw [(hr j hj').1]
    simp [hj']
  have h : Calls Tryz.prog 54 #[.slice (some ⟨b, 0, none⟩) ((List.range n).map F).length c, .int .i64 i, .int .i64 (i + 1 : Nat)] w _ := Any.slices_Delete_int Tryz.del23 b 0 c i (i + 1) ((List.range n).map F) w hH (by rw [hl]; exact hc.1) (by have := hc.2; unfold maxLen at this; omega) (by omega) (by rw [hl]; omega)
  rw [hl] at h
  refine h.mono fun e w' ⟨e1, q, e2⟩ => ?_
  have hs : (((List.range n).map F).take i ++ ((List.range n).map F).drop (i + 1) ++ List.replicate (i + 1 - i) 0).toArray.size = ((List.range n).map F).toArray.size := by simp; omega
  have H2 := holds_putRow (Value.int .i64) (Sort.ahead w q) b 0 _ _ (holds_ahead (Value.int .i64) w q b 0 _ hH) hs
  have G := grownBy_sortedI (w := w) (g := b) (n := q) (os := #[]) (((List.range n).map F).take i ++ ((List.range n).map F).drop (i + 1) ++ List.replicate (i + 1 - i) 0).toArray
  rw [grow_empty] at G
  rw [← e2] at H2 G
  refine ⟨by rw [e1, show i + 1 - i = 1 by omega], G, fun p hp => ?_⟩
  have k := H2 p (by simp; omega)
  rw [Nat.zero_add] at k
  refine ⟨?_, k.2⟩
  rw [k.1]
  have g := getD_del F hi hp
  congr 2
  simp only [List.getElem!_toArray, List.getElem!_eq_getElem?_getD]
  rw [g]
  rfl

end Go.Proofs.YtohcnicadbpbbaaGreatDoor

namespace Go.Proofs.YtohcnicadbpbbaaGreatDoor
open Go.RowKit Go.Firn

/-- The weights behind a merge of i and j. -/
def mgF (f : Nat → Int) (i j p : Nat) : Int := (if p < j then f p else f (p + 1)) + (if p = i then f j else 0)

set_option maxHeartbeats 2000000 in
set_option maxRecDepth 100000 in
theorem merged_any (a : Option Addr) (n c : Nat) (f : Nat → Int) (i j : Nat) (w : World) (hn : n ≤ 1000) (hij : i < j) (hj : j < n) (hr : RdI w a n f) (hf : ∀ k, k < n → 0 ≤ f k ∧ f k ≤ 1000000) :
    Calls Tryz.prog 31 #[.slice a n c, .int .i64 i, .int .i64 j] w (RetI1 (n - 1) (mgF f i j) w) := by
  have CC := Lib.hid (fun w' (k : Gr w w') => Clone_any a n c f w' ⟨by omega, hn⟩ (hr.gr k))
  have CD := Lib.hid (fun (b c' : Nat) (w' : World) (h1 : n ≤ c' ∧ c' ≤ maxLen) (h2 : RowI w' b n f) => by
    have := Delete_any b n c' j f w' hj hn h1 h2
    rwa [show ((j + 1 : Nat) : Int) = (j : Int) + 1 by omega] at this)
  have HR := Lib.hid hr
  have fi := hf i (by omega)
  have fj := hf j hj
  have i1 : (i : Int) < ((n - 1 : Nat) : Int) := by omega
  have i2 : (j : Int) < (n : Int) := by omega
  clear hr hf
  go_enter Tryz.func31, Tryz.ntmps31
  go_wp2_with fail
  refine (CC.out _ (Gr.refl w)).mono ?_
  rintro e w1 ⟨b, c1, rfl, l1, l2, r1, g1, f1⟩
  have G1 := Lib.hid g1
  have R1 := Lib.hid r1
  clear g1 r1
  go_wp2_with fail
  refine (CD.out _ _ _ ⟨l1, l2⟩ R1.out).mono ?_
  rintro e w2 ⟨rfl, g2, r2⟩
  have G2 := Lib.hid (g2.gr G1.out f1)
  obtain ⟨b3, o3, e3, h3⟩ := (HR.out.gr G2.out).at hj
  have c3 := h3 j hj
  obtain ⟨c4, f4⟩ := r2 i (by omega)
  simp only [if_pos hij] at c4
  have R2 := Lib.hid r2
  subst e3
  have q1 : IntKind.i64.wrap (f i + f j) = f i + f j := IntWalk.i64_in _ (by omega)
  clear h3 g2 r2 CC CD
  go_wp2_with fail
  generalize hfi : f i = x at *
  generalize hfj : f j = y at *
  have HX := Lib.hid hfi
  have HY := Lib.hid hfj
  clear hfi hfj
  go_region
  all_goals go_wp2
  go_ret
  refine ⟨_, _, rfl, by omega, l2, ((R2.out.set i (x + y)).rd).congr (fun p hp => ?_), (G2.out.setAt f1 _).drew⟩
  unfold mgF
  by_cases h : p = i
  · subst h; rw [if_pos rfl, if_pos hij, if_pos rfl, HX.out, HY.out]
  · rw [if_neg h, if_neg h, Int.add_zero]

end Go.Proofs.YtohcnicadbpbbaaGreatDoor

namespace Go.Firn
open Go.RowKit
/-- A struct of two slices in a block of the call's own. -/
def Box2v (w : World) (b : Nat) (s t : Value) : Prop := w.cell? ⟨b, 0, none⟩ = some s ∧ w.cell? ⟨b, 1, none⟩ = some t ∧ w.frozen? ⟨b, 0, none⟩ = false ∧ w.frozen? ⟨b, 1, none⟩ = false
theorem Box2v.gr {w w' : World} {b : Nat} {s t : Value} (h : Box2v w b s t) (g : Gr w w') : Box2v w' b s t := by
  obtain ⟨h0, h1, f0, f1⟩ := h
  have hb := World.block_lt_of_cell? w _ h0
  exact ⟨g.cell h0, g.cell h1, by rw [Below.frozen g hb]; exact f0, by rw [Below.frozen g (p := ⟨b, 1, none⟩) hb]; exact f1⟩
theorem Box2v.new {w : World} {b e : Nat} {s t : Value} (hb : w.heap.size = b) : Box2v (w.alloc (.cells #[s, t] e)) b s t := by
  have g := Gr.refl (w.alloc (.cells #[s, t] e))
  obtain ⟨a0, c0⟩ := g.fresh' (j := 0) hb rfl
  obtain ⟨a1, c1⟩ := g.fresh' (j := 1) hb rfl
  exact ⟨a0, a1, c0, c1⟩
/-- What reads as ints does so behind a store onto what is none. -/
theorem RdI.keep {w : World} {a : Option Addr} {n : Nat} {f : Nat → Int} (h : RdI w a n f) {q : Addr} {v : Value} (hq : w.cell? q = some v) (hv : ∀ x, v ≠ .int .i64 x) (u : Value) : RdI (w.setCell q u) a n f := by
  rcases h with h | ⟨b, o, ha, hc⟩
  · exact .inl h
  · refine .inr ⟨b, o, ha, fun i hi => ?_⟩
    rw [World.cell?_setCell_other _ _ _ _ (fun e => ?_)]
    · exact hc i hi
    · rw [e, hc i hi] at hq
      exact hv _ (Option.some.inj hq).symm
end Go.Firn
namespace Go.Proofs.YtohcnicadbpbbaaGreatDoor
open Go.RowKit Go.Firn

theorem cell_near2 {w : World} {b j : Nat} {v : Value} (h : w.cell? ⟨b, j, none⟩ = some v) (u : Value) : (w.setCell ⟨b, j, none⟩ u).cell? ⟨b, j, none⟩ = some u := cell_near h u
theorem _root_.Go.Firn.Box2v.put {w : World} {b : Nat} {s t : Value} (h : Box2v w b s t) (s' t' : Value) : Box2v ((w.setCell ⟨b, 0, none⟩ s').setCell ⟨b, 1, none⟩ t') b s' t' := by
  obtain ⟨h0, h1, f0, f1⟩ := h
  refine ⟨cell_by (cell_near h0 s') (by omega) t', cell_near (cell_by h1 (by omega) s') t', by simpa using f0, by simpa using f1⟩
theorem _root_.Go.Firn.RdI.put {w : World} {b : Nat} {a s t : Option Addr} {n s1 s2 t1 t2 : Nat} {f : Nat → Int} (h : RdI w a n f) (hb : Box2v w b (.slice s s1 s2) (.slice t t1 t2)) (u v : Value) : RdI ((w.setCell ⟨b, 0, none⟩ u).setCell ⟨b, 1, none⟩ v) a n f :=
  (h.keep hb.1 (fun x => by simp) u).keep (cell_by hb.2.1 (by omega) u) (fun x => by simp) v

/-- Odds and an error. -/
def RetD (n m : Nat) (F G : Nat → Int) (err : Int) (w : World) (e : Ending) (w' : World) : Prop :=
  ∃ a c a2 c2, e = .returned (.tuple #[.agg #[.slice a n c, .slice a2 m c2], .int .i64 err]) ∧ RdI w' a n F ∧ RdI w' a2 m G ∧ Gr w w'
theorem RetD.no {w w' : World} {F G : Nat → Int} (err : Int) (g : Gr w w') : RetD 0 0 F G err w (.returned (.tuple #[.agg #[.slice none 0 0, .slice none 0 0], .int .i64 err])) w' := ⟨none, 0, none, 0, rfl, .inl rfl, .inl rfl, g⟩
/-- Which merges there are. -/
def mgOk (n : Nat) (x y : Int) : Prop := 0 ≤ x ∧ x < y ∧ y < n

set_option maxHeartbeats 4000000 in
set_option maxRecDepth 100000 in
theorem Merged_no (a a2 : Option Addr) (n c m d : Nat) (f g : Nat → Int) (w : World) (hn : n ≤ 1000) (hm : m ≤ 1000) (hr : RdI w a n f) (hs : RdI w a2 m g) (x y : Int) (hv : vO n m f g = false) :
    Calls Tryz.prog 10 #[.agg #[.slice a n c, .slice a2 m d], .int .i64 x, .int .i64 y] w (RetD 0 0 (fun _ => 0) (fun _ => 0) 70 w) := by
  obtain ⟨W0, hW0⟩ : ∃ W0, (w.alloc (.cells #[.slice a n c, .slice a2 m d] 24)).alloc (.cells #[.slice none 0 0, .slice none 0 0] 24) = W0 := ⟨_, rfl⟩
  have G0 := Lib.hid (show Gr w W0 by rw [← hW0]; exact ((Gr.refl w).alloc _).alloc _)
  have B1 := Lib.hid (show BoxO W0 w.heap.size (.slice a n c) (.slice a2 m d) by rw [← hW0]; exact (BoxO.new rfl).gr ((Gr.refl _).alloc _))
  have B2 := Lib.hid (show Box2v W0 (w.heap.size + 1) (.slice none 0 0) (.slice none 0 0) by rw [← hW0]; exact Box2v.new (by simp))
  obtain ⟨p0, p1⟩ := B1.out
  have C := Lib.hid (fun w' (k : Gr w w') => newOdds_no a a2 n c m d f g w' hn hm (hr.gr k) (hs.gr k) hv)
  clear hr hs hv
  go_enter Tryz.func10, Tryz.ntmps10
  go_wp2_with (go_at_call 29; (with_reducible refine (C.out _ G0.out).mono ?_); rintro e w1 ⟨rfl, g1⟩; have g1' := g1.alloc (.cells #[.slice none 0 0, .slice none 0 0, .int .i64 0, .int .i64 0] 57); have G1 := Lib.hid (G0.out.trans g1'); have N1 := Lib.hid (World.block_lt_of_cell? w1 _ (B2.out.gr g1).1); obtain ⟨k0, k1, k2, k3⟩ := B2.out.gr g1'; clear g1 g1')
  obtain ⟨z0, z1, _⟩ := (show Box2v (w1.alloc (.cells #[.slice none 0 0, .slice none 0 0, .int .i64 0, .int .i64 0] 57)) (w.heap.size + 1) (.slice none 0 0) (.slice none 0 0) from ⟨k0, k1, k2, k3⟩).put (.slice none 0 0) (.slice none 0 0)
  refine bodyPost_ret (v := .tuple #[.agg #[.slice none 0 0, .slice none 0 0], .int .i64 70]) (by simp [results, Tryz.results10, go_sem, z0, z1]) rfl (RetD.no 70 ?_)
  repeat (first | exact G1.out | refine Gr.setCell ?_ (by simp; omega) _ | refine Gr.setCell ?_ (by simp) _ | refine Gr.alloc ?_ _ | refine Gr.drewN ?_ _ | refine Gr.drew ?_)

set_option maxHeartbeats 4000000 in
set_option maxRecDepth 100000 in
theorem Merged_bad (a a2 : Option Addr) (n c m d : Nat) (f g : Nat → Int) (w : World) (hn : n ≤ 1000) (hm : m ≤ 1000) (hr : RdI w a n f) (hs : RdI w a2 m g) (x y : Int) (hv : vO n m f g = true) (hb : ¬ mgOk n x y) :
    Calls Tryz.prog 10 #[.agg #[.slice a n c, .slice a2 m d], .int .i64 x, .int .i64 y] w (RetD 0 0 (fun _ => 0) (fun _ => 0) 2 w) := by
  obtain ⟨W0, hW0⟩ : ∃ W0, (w.alloc (.cells #[.slice a n c, .slice a2 m d] 24)).alloc (.cells #[.slice none 0 0, .slice none 0 0] 24) = W0 := ⟨_, rfl⟩
  have G0 := Lib.hid (show Gr w W0 by rw [← hW0]; exact ((Gr.refl w).alloc _).alloc _)
  have B1 := Lib.hid (show BoxO W0 w.heap.size (.slice a n c) (.slice a2 m d) by rw [← hW0]; exact (BoxO.new rfl).gr ((Gr.refl _).alloc _))
  have B2 := Lib.hid (show Box2v W0 (w.heap.size + 1) (.slice none 0 0) (.slice none 0 0) by rw [← hW0]; exact Box2v.new (by simp))
  obtain ⟨p0, p1⟩ := B1.out
  have C := Lib.hid (fun w' (k : Gr w w') => newOdds_ok a a2 n c m d f g w' hn hm (hr.gr k) (hs.gr k) hv)
  unfold mgOk at hb
  clear hr hs hv
  generalize sm f n = sf at *
  generalize sm g m = sg at *
  by_cases h1 : x < 0
  · clear hb
    go_enter Tryz.func10, Tryz.ntmps10
    go_wp2_with (go_at_call 29; (with_reducible refine (C.out _ G0.out).mono ?_); rintro e w1 ⟨rfl, g1⟩; have g1' := g1.alloc (.cells #[.slice a n c, .slice a2 m d, .int .i64 sf, .int .i64 sg] 57); obtain ⟨W1, hW1⟩ : ∃ W1, w1.alloc (.cells #[.slice a n c, .slice a2 m d, .int .i64 sf, .int .i64 sg] 57) = W1 := ⟨_, rfl⟩; rw [hW1] at g1'; have G1 := Lib.hid (G0.out.trans g1'); have B3 := Lib.hid (show Box4 W1 w1.heap.size (.slice a n c) (.slice a2 m d) (.int .i64 sf) (.int .i64 sg) by rw [← hW1]; exact Box4.new rfl); have B2x := Lib.hid (B2.out.gr g1'); have B1x := Lib.hid (B1.out.gr g1'); clear p0 p1; obtain ⟨p0, p1⟩ := B1x.out; obtain ⟨r0, r1, r2, r3, _⟩ := B3.out; obtain ⟨k0, k1, k2, k3⟩ := B2x.out; clear g1 g1')
    obtain ⟨z0, z1, _⟩ := (show Box2v (W1) (w.heap.size + 1) (.slice none 0 0) (.slice none 0 0) from ⟨k0, k1, k2, k3⟩).put (.slice none 0 0) (.slice none 0 0)
    refine bodyPost_ret (v := .tuple #[.agg #[.slice none 0 0, .slice none 0 0], .int .i64 2]) (by simp [results, Tryz.results10, go_sem, z0, z1]) rfl (RetD.no 2 ?_)
    repeat (first | exact G1.out | refine Gr.setCell ?_ (by simp; omega) _ | refine Gr.setCell ?_ (by simp) _ | refine Gr.alloc ?_ _ | refine Gr.drewN ?_ _ | refine Gr.drew ?_)
  · by_cases h2 : y ≤ x
    · have h2' : x ≥ y := h2
      clear hb
      go_enter Tryz.func10, Tryz.ntmps10
      go_wp2_with (go_at_call 29; (with_reducible refine (C.out _ G0.out).mono ?_); rintro e w1 ⟨rfl, g1⟩; have g1' := g1.alloc (.cells #[.slice a n c, .slice a2 m d, .int .i64 sf, .int .i64 sg] 57); obtain ⟨W1, hW1⟩ : ∃ W1, w1.alloc (.cells #[.slice a n c, .slice a2 m d, .int .i64 sf, .int .i64 sg] 57) = W1 := ⟨_, rfl⟩; rw [hW1] at g1'; have G1 := Lib.hid (G0.out.trans g1'); have B3 := Lib.hid (show Box4 W1 w1.heap.size (.slice a n c) (.slice a2 m d) (.int .i64 sf) (.int .i64 sg) by rw [← hW1]; exact Box4.new rfl); have B2x := Lib.hid (B2.out.gr g1'); have B1x := Lib.hid (B1.out.gr g1'); clear p0 p1; obtain ⟨p0, p1⟩ := B1x.out; obtain ⟨r0, r1, r2, r3, _⟩ := B3.out; obtain ⟨k0, k1, k2, k3⟩ := B2x.out; clear g1 g1')
      obtain ⟨z0, z1, _⟩ := (show Box2v (W1) (w.heap.size + 1) (.slice none 0 0) (.slice none 0 0) from ⟨k0, k1, k2, k3⟩).put (.slice none 0 0) (.slice none 0 0)
      refine bodyPost_ret (v := .tuple #[.agg #[.slice none 0 0, .slice none 0 0], .int .i64 2]) (by simp [results, Tryz.results10, go_sem, z0, z1]) rfl (RetD.no 2 ?_)
      repeat (first | exact G1.out | refine Gr.setCell ?_ (by simp; omega) _ | refine Gr.setCell ?_ (by simp) _ | refine Gr.alloc ?_ _ | refine Gr.drewN ?_ _ | refine Gr.drew ?_)
    · have h3 : (n : Int) ≤ y := by omega
      have h3' : y ≥ (n : Int) := h3
      have h2' : ¬ (x ≥ y) := h2
      clear hb
      go_enter Tryz.func10, Tryz.ntmps10
      go_wp2_with (first
        | (go_at_call 29; (with_reducible refine (C.out _ G0.out).mono ?_); rintro e w1 ⟨rfl, g1⟩; have g1' := g1.alloc (.cells #[.slice a n c, .slice a2 m d, .int .i64 sf, .int .i64 sg] 57); obtain ⟨W1, hW1⟩ : ∃ W1, w1.alloc (.cells #[.slice a n c, .slice a2 m d, .int .i64 sf, .int .i64 sg] 57) = W1 := ⟨_, rfl⟩; rw [hW1] at g1'; have G1 := Lib.hid (G0.out.trans g1'); have B3 := Lib.hid (show Box4 W1 w1.heap.size (.slice a n c) (.slice a2 m d) (.int .i64 sf) (.int .i64 sg) by rw [← hW1]; exact Box4.new rfl); have B2x := Lib.hid (B2.out.gr g1'); have B1x := Lib.hid (B1.out.gr g1'); clear p0 p1; obtain ⟨p0, p1⟩ := B1x.out; obtain ⟨r0, r1, r2, r3, _⟩ := B3.out; obtain ⟨k0, k1, k2, k3⟩ := B2x.out; clear g1 g1')
        | (go_at_call 30; (with_reducible refine (many_any _ _ _ _ _ _ _).mono ?_); rintro e w2 ⟨rfl, g2⟩; have G2 := Lib.hid (G1.out.trans g2); have B2y := Lib.hid (B2x.out.gr g2); have B1y := Lib.hid (B1x.out.gr g2); clear k0 k1 k2 k3 p0 p1; obtain ⟨k0, k1, k2, k3⟩ := B2y.out; obtain ⟨p0, p1⟩ := B1y.out; clear g2))
      obtain ⟨z0, z1, _⟩ := (show Box2v (w2) (w.heap.size + 1) (.slice none 0 0) (.slice none 0 0) from ⟨k0, k1, k2, k3⟩).put (.slice none 0 0) (.slice none 0 0)
      refine bodyPost_ret (v := .tuple #[.agg #[.slice none 0 0, .slice none 0 0], .int .i64 2]) (by simp [results, Tryz.results10, go_sem, z0, z1]) rfl (RetD.no 2 ?_)
      repeat (first | exact G2.out | refine Gr.setCell ?_ (by simp; omega) _ | refine Gr.setCell ?_ (by simp) _ | refine Gr.alloc ?_ _ | refine Gr.drewN ?_ _ | refine Gr.drew ?_)

set_option maxHeartbeats 4000000 in
set_option maxRecDepth 100000 in
theorem Merged_ok (a a2 : Option Addr) (n c d : Nat) (f g : Nat → Int) (w : World) (hr : RdI w a n f) (hs : RdI w a2 n g) (hv : VO n n f g) (i j : Nat) (hij : i < j) (hj : j < n) :
    Calls Tryz.prog 10 #[.agg #[.slice a n c, .slice a2 n d], .int .i64 i, .int .i64 j] w (RetD (n - 1) (n - 1) (mgF f i j) (mgF g i j) 0 w) := by
  have hn := hv.noise.few
  obtain ⟨W0, hW0⟩ : ∃ W0, (w.alloc (.cells #[.slice a n c, .slice a2 n d] 24)).alloc (.cells #[.slice none 0 0, .slice none 0 0] 24) = W0 := ⟨_, rfl⟩
  have G0 := Lib.hid (show Gr w W0 by rw [← hW0]; exact ((Gr.refl w).alloc _).alloc _)
  have B1 := Lib.hid (show BoxO W0 w.heap.size (.slice a n c) (.slice a2 n d) by rw [← hW0]; exact (BoxO.new rfl).gr ((Gr.refl _).alloc _))
  have B2 := Lib.hid (show Box2v W0 (w.heap.size + 1) (.slice none 0 0) (.slice none 0 0) by rw [← hW0]; exact Box2v.new (by simp))
  obtain ⟨p0, p1⟩ := B1.out
  have C := Lib.hid (fun w' (k : Gr w w') => newOdds_ok a a2 n c n d f g w' (by omega) (by omega) (hr.gr k) (hs.gr k) (vO_iff.2 hv))
  have CM1 := Lib.hid (fun w' (k : Gr w w') => merged_any a n c f i j w' (by omega) hij hj (hr.gr k) (fun k hk => by have := hv.noise.ok k hk; omega))
  have CM2 := Lib.hid (fun w' (k : Gr w w') => merged_any a2 n d g i j w' (by omega) hij hj (hs.gr k) (fun k hk => by have := hv.signal.ok k hk; omega))
  have h1 : ¬ (i : Int) < 0 := by omega
  have h2 : ¬ (j : Int) ≤ (i : Int) := by omega
  have h2' : ¬ (i : Int) ≥ (j : Int) := h2
  have h3 : ¬ (n : Int) ≤ (j : Int) := by omega
  have h3' : ¬ (j : Int) ≥ (n : Int) := h3
  clear hr hs hv
  generalize sm f n = sf at *
  generalize sm g n = sg at *
  go_enter Tryz.func10, Tryz.ntmps10
  go_wp2_with (first
    | (go_at_call 29; (with_reducible refine (C.out _ G0.out).mono ?_); rintro e w1 ⟨rfl, g1⟩; have g1' := g1.alloc (.cells #[.slice a n c, .slice a2 n d, .int .i64 sf, .int .i64 sg] 57); obtain ⟨W1, hW1⟩ : ∃ W1, w1.alloc (.cells #[.slice a n c, .slice a2 n d, .int .i64 sf, .int .i64 sg] 57) = W1 := ⟨_, rfl⟩; rw [hW1] at g1'; have G1 := Lib.hid (G0.out.trans g1'); have B3 := Lib.hid (show Box4 W1 w1.heap.size (.slice a n c) (.slice a2 n d) (.int .i64 sf) (.int .i64 sg) by rw [← hW1]; exact Box4.new rfl); have B2x := Lib.hid (B2.out.gr g1'); have B1x := Lib.hid (B1.out.gr g1'); clear p0 p1; obtain ⟨p0, p1⟩ := B1x.out; obtain ⟨r0, r1, r2, r3, _⟩ := B3.out; obtain ⟨k0, k1, k2, k3⟩ := B2x.out; clear g1 g1')
    | (go_at_call 30; (with_reducible refine (many_any _ _ _ _ _ _ _).mono ?_); rintro e w2 ⟨rfl, g2⟩; have G2 := Lib.hid (G1.out.trans g2); have B2y := Lib.hid (B2x.out.gr g2); have B1y := Lib.hid (B1x.out.gr g2); clear k0 k1 k2 k3 p0 p1; obtain ⟨k0, k1, k2, k3⟩ := B2y.out; obtain ⟨p0, p1⟩ := B1y.out; clear g2))
  refine (wpIn_wide (n := 3)).1 ?_
  refine wpIn_region_held (fun w' => w'.cell? ⟨w.heap.size, 0, none⟩ = some (.slice a n c) ∧ w'.cell? ⟨w.heap.size, 1, none⟩ = some (.slice a2 n d) ∧ Gr w w') 13 (by kernel_rfl) rfl rfl ?_
  have hS : w2.drew.cell? ⟨w.heap.size, 0, none⟩ = some (.slice a n c) ∧ w2.drew.cell? ⟨w.heap.size, 1, none⟩ = some (.slice a2 n d) ∧ Gr w w2.drew := ⟨p0, p1, G2.out.drew⟩
  iterate 8 (first
    | (refine wpAnyHIn_take 0 (v := ?_) rfl (by kernel_rfl) (by kernel_rfl) (by kernel_rfl) (by decide +kernel) (fun _ _ _ h => h) (fun _ _ _ => trivial) (by rfl) (fun w' hSw => ?_) hS ?_; rotate_left 1; (focus (have z0 := hSw.1; have z1 := hSw.2.1; go_simp; try with_reducible rfl)); simp only [Act.put, List.setIfInBounds_toArray, List.set_cons_zero, List.set_cons_succ])
    | (refine wpAnyHIn_take 1 (v := ?_) rfl (by kernel_rfl) (by kernel_rfl) (by kernel_rfl) (by decide +kernel) (fun _ _ _ h => h) (fun _ _ _ => trivial) (by rfl) (fun w' hSw => ?_) hS ?_; rotate_left 1; (focus (have z0 := hSw.1; have z1 := hSw.2.1; go_simp; try with_reducible rfl)); simp only [Act.put, List.setIfInBounds_toArray, List.set_cons_zero, List.set_cons_succ])
    | (refine wpAnyHIn_take 2 (v := ?_) rfl (by kernel_rfl) (by kernel_rfl) (by kernel_rfl) (by decide +kernel) (fun _ _ _ h => h) (fun _ _ _ => trivial) (by rfl) (fun w' hSw => ?_) hS ?_; rotate_left 1; (focus (have z0 := hSw.1; have z1 := hSw.2.1; go_simp; try with_reducible rfl)); simp only [Act.put, List.setIfInBounds_toArray, List.set_cons_zero, List.set_cons_succ])
    | (refine wpAnyHIn_take 3 (v := ?_) rfl (by kernel_rfl) (by kernel_rfl) (by kernel_rfl) (by decide +kernel) (fun _ _ _ h => h) (fun _ _ _ => trivial) (by rfl) (fun w' hSw => ?_) hS ?_; rotate_left 1; (focus (have z0 := hSw.1; have z1 := hSw.2.1; go_simp; try with_reducible rfl)); simp only [Act.put, List.setIfInBounds_toArray, List.set_cons_zero, List.set_cons_succ])
    | (refine wpAnyHIn_take 5 (v := ?_) rfl (by kernel_rfl) (by kernel_rfl) (by kernel_rfl) (by decide +kernel) (fun _ _ _ h => h) (fun _ _ _ => trivial) (by rfl) (fun w' hSw => ?_) hS ?_; rotate_left 1; (focus (have z0 := hSw.1; have z1 := hSw.2.1; go_simp; try with_reducible rfl)); simp only [Act.put, List.setIfInBounds_toArray, List.set_cons_zero, List.set_cons_succ])
    | (refine wpAnyHIn_take 6 (v := ?_) rfl (by kernel_rfl) (by kernel_rfl) (by kernel_rfl) (by decide +kernel) (fun _ _ _ h => h) (fun _ _ _ => trivial) (by rfl) (fun w' hSw => ?_) hS ?_; rotate_left 1; (focus (have z0 := hSw.1; have z1 := hSw.2.1; go_simp; try with_reducible rfl)); simp only [Act.put, List.setIfInBounds_toArray, List.set_cons_zero, List.set_cons_succ])
    | (refine wpAnyHIn_take 7 (v := ?_) rfl (by kernel_rfl) (by kernel_rfl) (by kernel_rfl) (by decide +kernel) (fun _ _ _ h => h) (fun _ _ _ => trivial) (by rfl) (fun w' hSw => ?_) hS ?_; rotate_left 1; (focus (have z0 := hSw.1; have z1 := hSw.2.1; go_simp; try with_reducible rfl)); simp only [Act.put, List.setIfInBounds_toArray, List.set_cons_zero, List.set_cons_succ])
    | (refine wpAnyHIn_take 8 (v := ?_) rfl (by kernel_rfl) (by kernel_rfl) (by kernel_rfl) (by decide +kernel) (fun _ _ _ h => h) (fun _ _ _ => trivial) (by rfl) (fun w' hSw => ?_) hS ?_; rotate_left 1; (focus (have z0 := hSw.1; have z1 := hSw.2.1; go_simp; try with_reducible rfl)); simp only [Act.put, List.setIfInBounds_toArray, List.set_cons_zero, List.set_cons_succ]))
  refine wpAnyHIn_ready [4] (by kernel_rfl) (by simp) ?_
  refine AllHIn.cons rfl (by rfl) (fun K hK => ?_) AllHIn.nil
  go_simp
  refine ⟨trivial, ?_⟩
  refine (callsIn_wide.2 (CM1.out _ hS.2.2)).mono ?_
  rintro e wX ⟨awX, cwX, rfl, _, _, rdwX, gX⟩
  have hS : wX.cell? ⟨w.heap.size, 0, none⟩ = some (.slice a n c) ∧ wX.cell? ⟨w.heap.size, 1, none⟩ = some (.slice a2 n d) ∧ Gr w wX := ⟨gX.cell hS.1, gX.cell hS.2.1, hS.2.2.trans gX⟩
  have BX := Lib.hid (B2y.out.gr ((Gr.refl _).drew.trans gX))
  refine hK.out _ _ hS ?_
  clear hK K gX
  refine wpAnyHIn_ready [9] (by kernel_rfl) (by simp) ?_
  refine AllHIn.cons rfl (by rfl) (fun K hK => ?_) AllHIn.nil
  go_simp
  refine ⟨trivial, ?_⟩
  refine (callsIn_wide.2 (CM2.out _ hS.2.2)).mono ?_
  rintro e wY ⟨awY, cwY, rfl, _, _, rdwY, gX⟩
  have hS : wY.cell? ⟨w.heap.size, 0, none⟩ = some (.slice a n c) ∧ wY.cell? ⟨w.heap.size, 1, none⟩ = some (.slice a2 n d) ∧ Gr w wY := ⟨gX.cell hS.1, gX.cell hS.2.1, hS.2.2.trans gX⟩
  have BY := Lib.hid (BX.out.gr gX)
  have RX := Lib.hid (rdwX.gr gX)
  refine hK.out _ _ hS ?_
  clear hK K gX
  iterate 1 (first
    | (refine wpAnyHIn_take 10 (v := ?_) rfl (by kernel_rfl) (by kernel_rfl) (by kernel_rfl) (by decide +kernel) (fun _ _ _ h => h) (fun _ _ _ => trivial) (by rfl) (fun w' hSw => ?_) hS ?_; rotate_left 1; (focus (skip; go_simp; try with_reducible rfl)); simp only [Act.put, List.setIfInBounds_toArray, List.set_cons_zero, List.set_cons_succ]))
  obtain ⟨k0, k1, k2, k3⟩ := BY.out
  refine wpAnyHIn_ready [11] (by kernel_rfl) (by simp) ?_
  refine AllHIn.cons rfl (by rfl) (fun K hK => ?_) AllHIn.nil
  have k5 := cell_by (k := 0) k1 (by omega) (Value.slice awX (n - 1) cwX)
  go_simp
  obtain ⟨WZ, hWZ⟩ : ∃ WZ, (wY.setCell ⟨w.heap.size + 1, 0, none⟩ (.slice awX (n - 1) cwX)).setCell ⟨w.heap.size + 1, 1, none⟩ (.slice awY (n - 1) cwY) = WZ := ⟨_, rfl⟩
  have hS : WZ.cell? ⟨w.heap.size, 0, none⟩ = some (.slice a n c) ∧ WZ.cell? ⟨w.heap.size, 1, none⟩ = some (.slice a2 n d) ∧ Gr w WZ := by rw [← hWZ]; exact ⟨cell_far (cell_far hS.1 (by omega) _) (by omega) _, cell_far (cell_far hS.2.1 (by omega) _) (by omega) _, (hS.2.2.setAt (by omega) _).setAt (by omega) _⟩
  have BZ := Lib.hid (show Box2v WZ (w.heap.size + 1) (.slice awX (n - 1) cwX) (.slice awY (n - 1) cwY) by rw [← hWZ]; exact Box2v.put BY.out _ _)
  have RX2 := Lib.hid (show RdI WZ awX (n - 1) (mgF f i j) by rw [← hWZ]; exact RX.out.put BY.out _ _)
  have RY2 := Lib.hid (show RdI WZ awY (n - 1) (mgF g i j) by rw [← hWZ]; exact rdwY.put BY.out _ _)
  simp only [hWZ]
  refine hK.out _ _ hS ?_
  clear hK K
  iterate 1 (first
    | (refine wpAnyHIn_take 12 (v := ?_) rfl (by kernel_rfl) (by kernel_rfl) (by kernel_rfl) (by decide +kernel) (fun _ _ _ h => h) (fun _ _ _ => trivial) (by rfl) (fun w' hSw => ?_) hS ?_; rotate_left 1; (focus (skip; go_simp; try with_reducible rfl)); simp only [Act.put, List.setIfInBounds_toArray, List.set_cons_zero, List.set_cons_succ]))
  refine wpAnyHIn_done (by kernel_rfl) ?_ _
  obtain ⟨z0, z1, _⟩ := BZ.out
  go_wp2_with fail
  refine bodyPost_ret (v := .tuple #[.agg #[.slice awX (n - 1) cwX, .slice awY (n - 1) cwY], .int .i64 0]) (by simp [results, Tryz.results10, go_sem, z0, z1]) rfl ⟨_, _, _, _, rfl, RX2.out, RY2.out, hS.2.2⟩

end Go.Proofs.YtohcnicadbpbbaaGreatDoor

namespace Go.Proofs.YtohcnicadbpbbaaGreatDoor
open Go.RowKit Go.Firn

theorem ints_at (f : Nat → Int) {n j : Nat} {u : Value} (h : (ints n f)[j]? = some u) : j < n ∧ u = .int .i64 (f j) := by
  unfold ints at h
  rw [List.getElem?_map] at h
  by_cases hj : j < n
  · rw [List.getElem?_range hj] at h
    simp at h
    exact ⟨hj, h.symm⟩
  · rw [List.getElem?_eq_none (by simp; omega)] at h
    simp at h
theorem ints_len (n : Nat) (f : Nat → Int) : (ints n f).length = n := by unfold ints; simp
/-- append of all onto nothing: a new row. -/
theorem run_catI {w : World} {b m c2 ty : Nat} {a2 : Option Addr} {f : Nat → Int} (h2 : RdI w a2 m f) (hm : 0 < m ∧ m ≤ 1000) :
    ∃ cap w', (Builtin.append_ #[22, 22] ty #[.slice (some ⟨b, 0, none⟩) 0 0, .slice a2 m c2]).run Tryz.prog w = .ok (.slice (some ⟨w.heap.size, 0, none⟩) m cap) w' ∧ m ≤ cap ∧ cap ≤ maxLen ∧ Gr w w' ∧ RdI w' (some ⟨w.heap.size, 0, none⟩) m f := by
  obtain ⟨i, hi, hz, hs, hby⟩ := info_int Tryz.info3
  obtain ⟨b2, o2, rfl, hc⟩ := h2.at hm.1
  have src : Src Tryz.prog i.size 22 (.slice (some ⟨b2, o2, none⟩) m c2) m (ints m f) w := Src.ofSlice w Tryz.underlying22 _ _ _ _ (by rw [ints_len, hs, Nat.mul_one]) (fun j u hu => by
    obtain ⟨hj, rfl⟩ := ints_at f hu
    rw [add_flat rfl]
    exact hc j hj) (fun u hu => by
    unfold ints at hu
    obtain ⟨x, _, rfl⟩ := List.mem_map.1 hu
    rfl)
  have old : (Builtin.firstCells i.size 0 (.slice (some ⟨b, 0, none⟩) 0 0)).run Tryz.prog w.drew = .ok ([] : List Value).toArray w.drew := run_firstCells_some _ _ _ _ _ _ _ (by simp) (fun j u hu => by simp at hu)
  have hnc : Builtin.nextslicecap (0 + m) 0 * i.bytes ≤ 281474976710656 := by
    rw [hby]
    have : Builtin.nextslicecap (0 + m) 0 ≤ 4 * 100000 + 1000000 := by
      unfold Builtin.nextslicecap
      split
      · omega
      · split
        · omega
        · omega
    omega
  have run := run_append_grow_src (P := Tryz.prog) w 22 22 ty 3 i _ Tryz.underlying22 hi hz (some ⟨b, 0, none⟩) 0 0 [] old (.slice (some ⟨b2, o2, none⟩) m c2) m (ints m f) src (by omega) (by omega) hnc
  rw [Nat.zero_add] at run
  refine ⟨_, _, run, Nat.zero_add m ▸ grownCap_ge _ _ _ _, grownCap_le_maxLen _ _ _ _ (by unfold maxLen; omega), ((Gr.refl w).drew).alloc _, .inr ⟨w.heap.size, 0, rfl, fun j hj => ?_⟩⟩
  rw [Nat.zero_add]
  refine ((Gr.refl _).fresh' (b := w.heap.size) (j := j) (v := .int .i64 (f j)) (by simp) ?_).1
  rw [Array.getElem?_append_left (by simp [ints_len]; omega)]
  simp [ints, hj]
theorem wpIn_run {F : Fence} {n : Nat} {P : Program} {o : Oper} {a : Act} {K : Act → World → Prop} {Q : Exit → Act → World → Prop} (s x : Operand) (t : TypeId) (ho : o.op = .call { callee := .builtin .append, args := #[s, x], argTypes := #[t, t] })
    {w w' : World} {u v r : Value} (hs : a.eval s = u) (hx : a.eval x = v) (hrun : (Builtin.append_ #[t, t] o.type #[u, v]).run P w = .ok r w') (h : K (a.put o.dst r) w') : o.wpIn F n P a w K Q := by
  unfold Oper.wpIn
  refine ⟨?_, ?_⟩
  · simp [Oper.about, ho, resolve, Target.leads, Sem.run_pure]
  · rw [Oper.semAt_plain F _ _ (by rw [ho]; intro c hc'; cases hc')]
    simp [execOp, ho, resolve, invoke, builtin, hs, hx, hrun, Result.andThen]
    exact h

theorem CloneI_any (a : Option Addr) (n c : Nat) (f : Nat → Int) (w : World) (hn : 0 < n ∧ n ≤ 1000) (hr : RdI w a n f) : Calls Tryz.prog 28 #[.slice a n c] w (RetI1 n f w) :=
  (Clone_any a n c f w hn hr).mono fun _ _ ⟨_, _, h1, h2, h3, h4, h5, _⟩ => ⟨_, _, h1, h2, h3, h4.rd, h5⟩

set_option maxHeartbeats 4000000 in
set_option maxRecDepth 100000 in
theorem Swapped_no (a a2 : Option Addr) (n c m d : Nat) (f g : Nat → Int) (w : World) (hn : n ≤ 1000) (hm : m ≤ 1000) (hr : RdI w a n f) (hs : RdI w a2 m g) (hv : vO n m f g = false) :
    Calls Tryz.prog 9 #[.agg #[.slice a n c, .slice a2 m d]] w (RetD 0 0 (fun _ => 0) (fun _ => 0) 70 w) := by
  obtain ⟨W0, hW0⟩ : ∃ W0, (w.alloc (.cells #[.slice a n c, .slice a2 m d] 24)).alloc (.cells #[.slice none 0 0, .slice none 0 0] 24) = W0 := ⟨_, rfl⟩
  have G0 := Lib.hid (show Gr w W0 by rw [← hW0]; exact ((Gr.refl w).alloc _).alloc _)
  have B1 := Lib.hid (show BoxO W0 w.heap.size (.slice a n c) (.slice a2 m d) by rw [← hW0]; exact (BoxO.new rfl).gr ((Gr.refl _).alloc _))
  have B2 := Lib.hid (show Box2v W0 (w.heap.size + 1) (.slice none 0 0) (.slice none 0 0) by rw [← hW0]; exact Box2v.new (by simp))
  obtain ⟨p0, p1⟩ := B1.out
  have C := Lib.hid (fun w' (k : Gr w w') => Valid_any a a2 n c m d f g w' hn hm (hr.gr k) (hs.gr k))
  rw [hv] at C
  clear hr hs hv
  go_enter Tryz.func9, Tryz.ntmps9
  go_wp2_with (go_at_call 27; (with_reducible refine (C.out _ G0.out).mono ?_); rintro e W1 ⟨rfl, g1⟩; have G1 := Lib.hid (G0.out.trans g1); have B2x := Lib.hid (B2.out.gr g1); have B1x := Lib.hid (B1.out.gr g1); clear p0 p1; obtain ⟨p0, p1⟩ := B1x.out; obtain ⟨k0, k1, k2, k3⟩ := B2x.out; clear g1)
  obtain ⟨z0, z1, _⟩ := (show Box2v (W1) (w.heap.size + 1) (.slice none 0 0) (.slice none 0 0) from ⟨k0, k1, k2, k3⟩).put (.slice none 0 0) (.slice none 0 0)
  refine bodyPost_ret (v := .tuple #[.agg #[.slice none 0 0, .slice none 0 0], .int .i64 70]) (by simp [results, Tryz.results9, go_sem, z0, z1]) rfl (RetD.no 70 ?_)
  repeat (first | exact G1.out | refine Gr.setCell ?_ (by simp; omega) _ | refine Gr.setCell ?_ (by simp) _ | refine Gr.alloc ?_ _ | refine Gr.drewN ?_ _ | refine Gr.drew ?_)

set_option maxHeartbeats 4000000 in
set_option maxRecDepth 100000 in
theorem Swapped_ok (a a2 : Option Addr) (n c d : Nat) (f g : Nat → Int) (w : World) (hr : RdI w a n f) (hs : RdI w a2 n g) (hv : VO n n f g) :
    Calls Tryz.prog 9 #[.agg #[.slice a n c, .slice a2 n d]] w (RetD n n g f 0 w) := by
  have hn := hv.noise.few
  have hn1 : 0 < n ∧ n ≤ 1000 := ⟨hv.noise.one, by omega⟩
  obtain ⟨W0, hW0⟩ : ∃ W0, (w.alloc (.cells #[.slice a n c, .slice a2 n d] 24)).alloc (.cells #[.slice none 0 0, .slice none 0 0] 24) = W0 := ⟨_, rfl⟩
  have G0 := Lib.hid (show Gr w W0 by rw [← hW0]; exact ((Gr.refl w).alloc _).alloc _)
  have B1 := Lib.hid (show BoxO W0 w.heap.size (.slice a n c) (.slice a2 n d) by rw [← hW0]; exact (BoxO.new rfl).gr ((Gr.refl _).alloc _))
  have B2 := Lib.hid (show Box2v W0 (w.heap.size + 1) (.slice none 0 0) (.slice none 0 0) by rw [← hW0]; exact Box2v.new (by simp))
  obtain ⟨p0, p1⟩ := B1.out
  have C := Lib.hid (fun w' (k : Gr w w') => Valid_any a a2 n c n d f g w' (by omega) (by omega) (hr.gr k) (hs.gr k))
  rw [vO_iff.2 hv] at C
  have CM1 := Lib.hid (fun w' (k : Gr w w') => CloneI_any a n c f w' hn1 (hr.gr k))
  have CM2 := Lib.hid (fun w' (k : Gr w w') => CloneI_any a2 n d g w' hn1 (hs.gr k))
  clear hr hs hv
  go_enter Tryz.func9, Tryz.ntmps9
  go_wp2_with (go_at_call 27; (with_reducible refine (C.out _ G0.out).mono ?_); rintro e W1 ⟨rfl, g1⟩; have G1 := Lib.hid (G0.out.trans g1); have B2x := Lib.hid (B2.out.gr g1); have B1x := Lib.hid (B1.out.gr g1); clear p0 p1; obtain ⟨p0, p1⟩ := B1x.out; obtain ⟨k0, k1, k2, k3⟩ := B2x.out; clear g1)
  refine (wpIn_wide (n := 3)).1 ?_
  refine wpIn_region_held (fun w' => w'.cell? ⟨w.heap.size, 0, none⟩ = some (.slice a n c) ∧ w'.cell? ⟨w.heap.size, 1, none⟩ = some (.slice a2 n d) ∧ Gr w w') 9 (by kernel_rfl) rfl rfl ?_
  have hS : W1.drew.cell? ⟨w.heap.size, 0, none⟩ = some (.slice a n c) ∧ W1.drew.cell? ⟨w.heap.size, 1, none⟩ = some (.slice a2 n d) ∧ Gr w W1.drew := ⟨p0, p1, G1.out.drew⟩
  have BY := Lib.hid (B2x.out.gr ((Gr.refl _).drew))
  iterate 4 (first
    | (refine wpAnyHIn_take 0 (v := ?_) rfl (by kernel_rfl) (by kernel_rfl) (by kernel_rfl) (by decide +kernel) (fun _ _ _ h => h) (fun _ _ _ => trivial) (by rfl) (fun w' hSw => ?_) hS ?_; rotate_left 1; (focus (have z0 := hSw.1; have z1 := hSw.2.1; go_simp; try with_reducible rfl)); simp only [Act.put, List.setIfInBounds_toArray, List.set_cons_zero, List.set_cons_succ])
    | (refine wpAnyHIn_take 1 (v := ?_) rfl (by kernel_rfl) (by kernel_rfl) (by kernel_rfl) (by decide +kernel) (fun _ _ _ h => h) (fun _ _ _ => trivial) (by rfl) (fun w' hSw => ?_) hS ?_; rotate_left 1; (focus (have z0 := hSw.1; have z1 := hSw.2.1; go_simp; try with_reducible rfl)); simp only [Act.put, List.setIfInBounds_toArray, List.set_cons_zero, List.set_cons_succ])
    | (refine wpAnyHIn_take 3 (v := ?_) rfl (by kernel_rfl) (by kernel_rfl) (by kernel_rfl) (by decide +kernel) (fun _ _ _ h => h) (fun _ _ _ => trivial) (by rfl) (fun w' hSw => ?_) hS ?_; rotate_left 1; (focus (have z0 := hSw.1; have z1 := hSw.2.1; go_simp; try with_reducible rfl)); simp only [Act.put, List.setIfInBounds_toArray, List.set_cons_zero, List.set_cons_succ])
    | (refine wpAnyHIn_take 4 (v := ?_) rfl (by kernel_rfl) (by kernel_rfl) (by kernel_rfl) (by decide +kernel) (fun _ _ _ h => h) (fun _ _ _ => trivial) (by rfl) (fun w' hSw => ?_) hS ?_; rotate_left 1; (focus (have z0 := hSw.1; have z1 := hSw.2.1; go_simp; try with_reducible rfl)); simp only [Act.put, List.setIfInBounds_toArray, List.set_cons_zero, List.set_cons_succ]))
  refine wpAnyHIn_ready [2] (by kernel_rfl) (by simp) ?_
  refine AllHIn.cons rfl (by rfl) (fun K hK => ?_) AllHIn.nil
  go_simp
  refine ⟨trivial, ?_⟩
  refine (callsIn_wide.2 (CM2.out _ hS.2.2)).mono ?_
  rintro e wX ⟨awX, cwX, rfl, _, _, rdwX, gX⟩
  have hS : wX.cell? ⟨w.heap.size, 0, none⟩ = some (.slice a n c) ∧ wX.cell? ⟨w.heap.size, 1, none⟩ = some (.slice a2 n d) ∧ Gr w wX := ⟨gX.cell hS.1, gX.cell hS.2.1, hS.2.2.trans gX⟩
  have BY := Lib.hid (BY.out.gr gX)
  refine hK.out _ _ hS ?_
  clear hK K gX
  refine wpAnyHIn_ready [5] (by kernel_rfl) (by simp) ?_
  refine AllHIn.cons rfl (by rfl) (fun K hK => ?_) AllHIn.nil
  go_simp
  refine ⟨trivial, ?_⟩
  refine (callsIn_wide.2 (CM1.out _ hS.2.2)).mono ?_
  rintro e wY ⟨awY, cwY, rfl, _, _, rdwY, gX⟩
  have hS : wY.cell? ⟨w.heap.size, 0, none⟩ = some (.slice a n c) ∧ wY.cell? ⟨w.heap.size, 1, none⟩ = some (.slice a2 n d) ∧ Gr w wY := ⟨gX.cell hS.1, gX.cell hS.2.1, hS.2.2.trans gX⟩
  have BY := Lib.hid (BY.out.gr gX)
  have RX := Lib.hid (rdwX.gr gX)
  refine hK.out _ _ hS ?_
  clear hK K gX
  iterate 1 (first
    | (refine wpAnyHIn_take 6 (v := ?_) rfl (by kernel_rfl) (by kernel_rfl) (by kernel_rfl) (by decide +kernel) (fun _ _ _ h => h) (fun _ _ _ => trivial) (by rfl) (fun w' hSw => ?_) hS ?_; rotate_left 1; (focus (skip; go_simp; try with_reducible rfl)); simp only [Act.put, List.setIfInBounds_toArray, List.set_cons_zero, List.set_cons_succ]))
  refine wpAnyHIn_ready [7] (by kernel_rfl) (by simp) ?_
  refine AllHIn.cons rfl (by rfl) (fun K hK => ?_) AllHIn.nil
  obtain ⟨k0, k1, k2, k3⟩ := BY.out
  have k5 := cell_by (k := 0) k1 (by omega) (Value.slice awX n cwX)
  go_simp
  obtain ⟨WZ, hWZ⟩ : ∃ WZ, (wY.setCell ⟨w.heap.size + 1, 0, none⟩ (.slice awX n cwX)).setCell ⟨w.heap.size + 1, 1, none⟩ (.slice awY n cwY) = WZ := ⟨_, rfl⟩
  have hS : WZ.cell? ⟨w.heap.size, 0, none⟩ = some (.slice a n c) ∧ WZ.cell? ⟨w.heap.size, 1, none⟩ = some (.slice a2 n d) ∧ Gr w WZ := by rw [← hWZ]; exact ⟨cell_far (cell_far hS.1 (by omega) _) (by omega) _, cell_far (cell_far hS.2.1 (by omega) _) (by omega) _, (hS.2.2.setAt (by omega) _).setAt (by omega) _⟩
  have BZ := Lib.hid (show Box2v WZ (w.heap.size + 1) (.slice awX n cwX) (.slice awY n cwY) by rw [← hWZ]; exact Box2v.put BY.out _ _)
  have RX2 := Lib.hid (show RdI WZ awX n g by rw [← hWZ]; exact RX.out.put BY.out _ _)
  have RY2 := Lib.hid (show RdI WZ awY n f by rw [← hWZ]; exact rdwY.put BY.out _ _)
  simp only [hWZ]
  refine hK.out _ _ hS ?_
  clear hK K
  iterate 1 (first
    | (refine wpAnyHIn_take 8 (v := ?_) rfl (by kernel_rfl) (by kernel_rfl) (by kernel_rfl) (by decide +kernel) (fun _ _ _ h => h) (fun _ _ _ => trivial) (by rfl) (fun w' hSw => ?_) hS ?_; rotate_left 1; (focus (skip; go_simp; try with_reducible rfl)); simp only [Act.put, List.setIfInBounds_toArray, List.set_cons_zero, List.set_cons_succ]))
  refine wpAnyHIn_done (by kernel_rfl) ?_ _
  obtain ⟨z0, z1, _⟩ := BZ.out
  go_wp2_with fail
  refine bodyPost_ret (v := .tuple #[.agg #[.slice awX n cwX, .slice awY n cwY], .int .i64 0]) (by simp [results, Tryz.results9, go_sem, z0, z1]) rfl ⟨_, _, _, _, rfl, RX2.out, RY2.out, hS.2.2⟩

end Go.Proofs.YtohcnicadbpbbaaGreatDoor
