import Derived.Ground.Names2Prog
import Derived.Shelf.Slices.Clone
import Derived.Shelf.Slices.Delete
import Derived.Ground.Names8Prog
import Derived.Shelf.Spec.SlicesGrow
import Derived.Sort.OwnSortedInts
import Derived.Laws.OwnMore
import Derived.Test.YtehdemcfeoiecaaGreatDoorA02
set_option maxHeartbeats 64000000
set_option maxRecDepth 100000
namespace Go.Proofs.YtehdemcfeoiecaaGreatDoor
open Go.RowKit Go.Firn Go.Firn.Tb
def RetC (L M : List Int) (w : World) (e : Ending) (w' : World) : Prop := (∃ z : Int, e = .returned (.int .i64 z) ∧ (z < 0 ↔ L < M) ∧ (0 < z ↔ M < L)) ∧ Gr w w'
theorem RetC.lt {L M : List Int} {w w' : World} (h : L < M) (g : Gr w w') : RetC L M w (.returned (.int .i64 (-1))) w' := ⟨⟨-1, rfl, by simp [h], by simp [List.lt_asymm h]⟩, g⟩
theorem RetC.gt {L M : List Int} {w w' : World} (h : M < L) (g : Gr w w') : RetC L M w (.returned (.int .i64 1)) w' := ⟨⟨1, rfl, by simp [List.lt_asymm h], by simp [h]⟩, g⟩
theorem compare_any (a a' : Option Addr) (n n' c c' : Nat) (L M : List Int) (w : World) (h1 : Rd3 w a n c L) (h2 : Rd3 w a' n' c' M) : Calls Tryz.prog 92 #[.slice a n c, .slice a' n' c'] w (RetC L M w) := by
 have H1 := Lh h1
 have H2 := Lh h2
 clear h1 h2
 go_enter Tryz.func92, Tryz.ntmps92
 go_wp2_with fail
 go_loopw [5] (fun s wr => ∃ i : Nat, s = .int .i64 i ∧ Hid (Gr w wr) ∧ Hid (i ≤ n ∧ i ≤ n') ∧ Hid (∀ k, k < i → iv L k = iv M k)) (fun s _ => n - (intOf s).toNat)
 case atStart => exact ⟨0, rfl, Lh (Gr.refl w), Lh (by omega), Lh (fun k hk => by omega)⟩
 case round =>
  obtain ⟨i, rfl, HG, Hi, HE⟩ := hrel
  have hn := H1.out.1
  have hn' := H2.out.1
  have hi := Hi.out
  have hm := H1.out.2.1
  have hm2 := H1.out.2.2.1
  by_cases hlt : i < n
  ·have i1 : (i : Int) < (n : Int) := by omega
   obtain ⟨b, o, rfl, hc⟩ := (H1.out.2.2.2.2.gr HG.out).at hlt
   have z1 := hc i hlt
   by_cases hlt' : i < n'
   ·have i2 : (i : Int) < (n' : Int) := by omega
    obtain ⟨b', o', rfl, hc'⟩ := (H2.out.2.2.2.2.gr HG.out).at hlt'
    have z2 := hc' i hlt'
    have HX := Lh (show (iv L i < iv M i → L < M) ∧ (iv M i < iv L i → M < L) ∧ (¬ iv L i < iv M i → ¬ iv M i < iv L i → iv L i = iv M i) from ⟨fun h => lt_at HE.out (by omega) (by omega) h, fun h => lt_at (fun k hk => (HE.out k hk).symm) (by omega) (by omega) h, fun h k => by omega⟩)
    generalize hx : iv L i = x at *
    generalize hy : iv M i = y at *
    have HXY := Lh (And.intro hx hy)
    have HL := Lh (And.intro hlt hlt')
    have HM := Lh (And.intro hm hm2)
    clear hc hc' hx hy hn hn' hi hlt hlt' hm hm2
    by_cases h : x < y
    ·have hz := Lh (HX.out.1 h)
     have hd : decide (x < y) = true := decide_eq_true h
     clear HX
     go_wp2_with fail
     go_quiet (fail)
     go_wp2_with fail
     go_ret
     exact RetC.lt hz.out (HG.out.drewN _)
    by_cases k : y < x
    ·have hz := Lh (HX.out.2.1 k)
     clear HX
     go_wp2_with fail
     go_quiet (fail)
     go_wp2_with fail
     go_quiet (fail)
     go_wp2_with fail
     go_ret
     exact RetC.gt hz.out ((HG.out.drewN _).drewN _)
    have hz := Lh (HX.out.2.2 h k)
    clear HX
    go_wp2_with fail
    go_quiet (fail)
    go_wp2_with fail
    go_quiet (fail)
    go_wp2_with fail
    have hl := HL.out
    have hm := HM.out
    have e3 : wrap64 ((i : Int) + 1) = ((i + 1 : Nat) : Int) := by rw [IntWalk.wrap64_in _ (by omega)]; omega
    go_roundw
    case rel => exact ⟨i + 1, by first | (rw [e3]) | rfl | simp, Lh (HG.out.drewN _), Lh (by clear e3; omega), Lh (fun k hk => by
     rcases Nat.lt_succ_iff_lt_or_eq.1 hk with q | rfl
     ·exact HE.out k q
     rw [HXY.out.1, HXY.out.2]; exact hz.out)⟩
    case measure => first | (rw [e3]; clear e3; simp only [intOf]; omega) | (clear e3; simp only [intOf]; omega)
   have i3 : ¬ (i : Int) < (n' : Int) := by omega
   have hz := Lh (show M < L from lt_pre (fun k hk => HE.out k (by omega)) (by omega))
   obtain ⟨d, hd⟩ : ∃ d, d = n - n' := ⟨_, rfl⟩
   have HD := Lh (show (0 : Int) < (d : Int) by omega)
   have e4 : IntKind.i64.wrap ((n : Int) - (n' : Int)) = (d : Int) := by rw [IntWalk.i64_in _ (by have := H1.out.2.2.1; have := H1.out.2.1; have := H2.out.2.2.1; have := H2.out.2.1; omega)]; omega
   clear hc hn hn' hi hlt' hm hm2 hd
   go_wp2_with fail
   go_ret
   exact ⟨⟨d, rfl, by have := HD.out; simp [List.lt_asymm hz.out], by have := HD.out; simp only [this, hz.out]⟩, HG.out⟩
  have i1 : ¬ (i : Int) < (n : Int) := by omega
  have b2 := H2.out.2.2.1
  have b3 := H2.out.2.1
  by_cases hq : n < n'
  ·have hz := Lh (show L < M from lt_pre (fun k hk => (HE.out k (by omega)).symm) (by omega))
   obtain ⟨d, hd⟩ : ∃ d : Int, d = (n : Int) - (n' : Int) := ⟨_, rfl⟩
   have HD := Lh (show d < 0 by omega)
   have e4 : IntKind.i64.wrap ((n : Int) - (n' : Int)) = d := by rw [IntWalk.i64_in _ (by omega)]; omega
   clear hn hn' hi hlt hm hm2 b2 b3 hd hq
   go_wp2_with fail
   go_ret
   exact ⟨⟨d, rfl, by have := HD.out; simp only [this, hz.out], by have := HD.out; constructor; exact (fun k => absurd k (by omega)); exact fun k => absurd k (List.lt_asymm hz.out)⟩, HG.out⟩
  obtain rfl : n = n' := by omega
  have e4 : IntKind.i64.wrap ((n : Int) - (n : Int)) = 0 := by rw [Int.sub_self]; rfl
  obtain rfl : L = M := iv_ext (by omega) (fun k hk => HE.out k (by omega))
  clear hn hn' hi hlt hm hm2 b2 b3 hq
  go_wp2_with fail
  go_ret
  exact ⟨⟨0, rfl, by simp, by simp⟩, HG.out⟩
def stp : Wd → Int × Int × Int
 | .put n => (0, n, 0)
 | .orr => (1, 0, 0)
 | .byy => (2, 0, 0)
 | .drop n => (3, n, 0)
 | .pick n m => (4, n, m)
 | .same n m => (5, n, m)
def colOk (s : Wd) (n : Nat) : Prop := match s with
 | .drop k => k < n
 | .pick k _ => k < n
 | .same k m => k < n ∧ m < n
 | _ => True
theorem keeps_any (s : Wd) (a : Option Addr) (n c : Nat) (L : List Int) (w : World) (h1 : Rd3 w a n c L) (hc : colOk s n) : Calls Tryz.prog 102 #[.agg #[.int .i64 (stp s).1, .int .i64 (stp s).2.1, .int .i64 (stp s).2.2], .slice a n c] w (RetB (keepsW s L) w) := by
 have G := Lh ((Gr.refl w).alloc (.cells #[.int .i64 (stp s).1, .int .i64 (stp s).2.1, .int .i64 (stp s).2.2] 103))
 have z0 : (w.alloc (.cells #[.int .i64 (stp s).1, .int .i64 (stp s).2.1, .int .i64 (stp s).2.2] 103)).cell? ⟨w.heap.size, 0, none⟩ = some (.int .i64 (stp s).1) := by simp
 have z1 : (w.alloc (.cells #[.int .i64 (stp s).1, .int .i64 (stp s).2.1, .int .i64 (stp s).2.2] 103)).cell? ⟨w.heap.size, 1, none⟩ = some (.int .i64 (stp s).2.1) := by simp
 have z2 : (w.alloc (.cells #[.int .i64 (stp s).1, .int .i64 (stp s).2.1, .int .i64 (stp s).2.2] 103)).cell? ⟨w.heap.size, 2, none⟩ = some (.int .i64 (stp s).2.2) := by simp
 have H1 := Lh (h1.gr G.out)
 have HN := Lh (h1.1)
 clear h1
 cases s with
 | put k =>
  simp only [stp] at z0 z1 z2 G H1 ⊢
  clear z1 z2
  go_enter Tryz.func102, Tryz.ntmps102
  go_wp2_with fail
  go_ret
  exact ⟨rfl, G.out⟩
 | orr =>
  simp only [stp] at z0 z1 z2 G H1 ⊢
  clear z1 z2
  go_enter Tryz.func102, Tryz.ntmps102
  go_wp2_with fail
  go_ret
  exact ⟨rfl, G.out⟩
 | byy =>
  simp only [stp] at z0 z1 z2 G H1 ⊢
  clear z1 z2
  go_enter Tryz.func102, Tryz.ntmps102
  go_wp2_with fail
  go_ret
  exact ⟨rfl, G.out⟩
 | drop k =>
  simp only [stp] at z0 z1 z2 G H1 ⊢
  clear z1 z2
  go_enter Tryz.func102, Tryz.ntmps102
  go_wp2_with fail
  go_ret
  exact ⟨rfl, G.out⟩
 | pick k m =>
  simp only [stp] at z0 z1 z2 G H1 ⊢
  have i1 : (k : Int) < (n : Int) := by have : k < n := hc; omega
  obtain ⟨b, o, rfl, hcc⟩ := H1.out.2.2.2.2.at (show k < n from hc)
  have y1 := hcc k hc
  have e : keepsW (.pick k m) L = decide (iv L k = m) := rfl
  rw [e]
  generalize iv L k = x at *
  clear hcc hc e
  go_enter Tryz.func102, Tryz.ntmps102
  go_wp2_with fail
  go_quiet (fail)
  go_wp2_with fail
  go_ret
  exact ⟨by simp [Bool.beq_eq_decide_eq], G.out.drewN _⟩
 | same k m =>
  simp only [stp] at z0 z1 z2 G H1 ⊢
  have i1 : (k : Int) < (n : Int) := by have : k < n := hc.1; omega
  have i2 : (m : Int) < (n : Int) := by have : m < n := hc.2; omega
  obtain ⟨b, o, rfl, hcc⟩ := H1.out.2.2.2.2.at (show k < n from hc.1)
  have y1 := hcc k hc.1
  have y2 := hcc m hc.2
  have e : keepsW (.same k m) L = decide (iv L k = iv L m) := rfl
  rw [e]
  generalize iv L k = x at *
  generalize iv L m = y at *
  clear hcc hc e
  go_enter Tryz.func102, Tryz.ntmps102
  go_wp2_with fail
  go_quiet (fail)
  go_wp2_with fail
  go_ret
  exact ⟨by simp [Bool.beq_eq_decide_eq], G.out.drewN _⟩
end Go.Proofs.YtehdemcfeoiecaaGreatDoor
/-
 DERIVED: THE SHELF's CONTRACTS AT THIS DUMP, IN PLAIN WORDS (tools/lay-plain.mjs out of 'YtehdemcfeoiecaaGreatDoorShelf.lean', which tools/lay-shelf.mjs wrote): THE SAME DECLARATIONS UNDER THE SAME NAMES: 'import', 'namespace', 'open', 'def', 'theorem' AND NOTHING ELSE: no command of the shelf's: FOR A HAND-IN. Each laying: the table of numbers ('.._ren') and one theorem, a field a fact of the dump's own or the kernel's comparison; each contract: ONE APPLICATION.
-/
namespace Go.Proofs
open Go.Shelf
def Tryz.clone73_ren : Go.Shelf.Ren := ⟨fun | 15 => 73 | n => n, fun | 22 => 23 | 3 => 3 | 4 => 4 | n => n, fun | n => n⟩
theorem Tryz.clone73 : Go.Proofs.Lays2.n15 Tryz.prog Tryz.clone73_ren := {
 mixed := by kernel_rfl
 f15 := Tryz.func73.trans (congrArg some (by kernel_rfl))
 t3 := Tryz.underlying3
 a3 := Tryz.isAgg3
 z3 := Tryz.sizeOf3
 v3 := Tryz.zeroValue3
 t4 := Tryz.underlying4
 a4 := Tryz.isAgg4
 z4 := Tryz.sizeOf4
 v4 := Tryz.zeroValue4
 t22 := Tryz.underlying23
 a22 := Tryz.isAgg23
 z22 := Tryz.sizeOf23
 v22 := Tryz.zeroValue23
 i3 := by kernel_rfl }
def Tryz.del103_ren : Go.Shelf.Ren := ⟨fun | 23 => 103 | n => n, fun | 22 => 23 | 3 => 3 | 4 => 4 | 0 => 0 | n => n, fun | n => n⟩
theorem Tryz.del103 : Go.Proofs.Lays2.n23 Tryz.prog Tryz.del103_ren := {
 mixed := by kernel_rfl
 f23 := Tryz.func103.trans (congrArg some (by kernel_rfl))
 t0 := Tryz.underlying0
 a0 := Tryz.isAgg0
 z0 := Tryz.sizeOf0
 v0 := Tryz.zeroValue0
 t3 := Tryz.underlying3
 a3 := Tryz.isAgg3
 z3 := Tryz.sizeOf3
 v3 := Tryz.zeroValue3
 t4 := Tryz.underlying4
 a4 := Tryz.isAgg4
 z4 := Tryz.sizeOf4
 v4 := Tryz.zeroValue4
 t22 := Tryz.underlying23
 a22 := Tryz.isAgg23
 z22 := Tryz.sizeOf23
 v22 := Tryz.zeroValue23
 i3 := by kernel_rfl }
def Tryz.grow168_ren : Go.Shelf.Ren := ⟨fun | 4 => 168 | n => n, fun | 22 => 23 | 25 => 3 | 3 => 3 | 4 => 4 | 9 => 9 | 20 => 20 | 0 => 0 | n => n, fun | n => n⟩
theorem Tryz.grow168 : Go.Proofs.Lays8.n4 Tryz.prog Tryz.grow168_ren := {
 mixed := by kernel_rfl
 f4 := ⟨Tryz.f168.name, by decide, Tryz.func168.trans (congrArg some (by kernel_rfl))⟩
 t0 := Tryz.underlying0
 a0 := Tryz.isAgg0
 z0 := Tryz.sizeOf0
 v0 := Tryz.zeroValue0
 t3 := Tryz.underlying3
 a3 := Tryz.isAgg3
 z3 := Tryz.sizeOf3
 v3 := Tryz.zeroValue3
 t4 := Tryz.underlying4
 a4 := Tryz.isAgg4
 z4 := Tryz.sizeOf4
 v4 := Tryz.zeroValue4
 t9 := Tryz.underlying9
 a9 := Tryz.isAgg9
 z9 := Tryz.sizeOf9
 v9 := Tryz.zeroValue9
 t20 := Tryz.underlying20
 a20 := Tryz.isAgg20
 z20 := Tryz.sizeOf20
 v20 := Tryz.zeroValue20
 t22 := Tryz.underlying23
 a22 := Tryz.isAgg23
 z22 := Tryz.sizeOf23
 v22 := Tryz.zeroValue23 }
def Tryz.grow130_ren : Go.Shelf.Ren := ⟨fun | 4 => 130 | n => n, fun | 22 => 65 | 25 => 98 | 3 => 3 | 4 => 4 | 9 => 9 | 20 => 20 | 0 => 0 | n => n, fun | n => n⟩
theorem Tryz.grow130 : Go.Proofs.Lays8.n4 Tryz.prog Tryz.grow130_ren := {
 mixed := by kernel_rfl
 f4 := ⟨Tryz.f130.name, by decide, Tryz.func130.trans (congrArg some (by kernel_rfl))⟩
 t0 := Tryz.underlying0
 a0 := Tryz.isAgg0
 z0 := Tryz.sizeOf0
 v0 := Tryz.zeroValue0
 t3 := Tryz.underlying3
 a3 := Tryz.isAgg3
 z3 := Tryz.sizeOf3
 v3 := Tryz.zeroValue3
 t4 := Tryz.underlying4
 a4 := Tryz.isAgg4
 z4 := Tryz.sizeOf4
 v4 := Tryz.zeroValue4
 t9 := Tryz.underlying9
 a9 := Tryz.isAgg9
 z9 := Tryz.sizeOf9
 v9 := Tryz.zeroValue9
 t20 := Tryz.underlying20
 a20 := Tryz.isAgg20
 z20 := Tryz.sizeOf20
 v20 := Tryz.zeroValue20
 t22 := Tryz.underlying65
 a22 := Tryz.isAgg65
 z22 := Tryz.sizeOf65
 v22 := Tryz.zeroValue65 }
end Go.Proofs
namespace Go.Proofs.YtehdemcfeoiecaaGreatDoor
open Go.RowKit Go.Firn Go.Firn.Tb Go.Sort
theorem typed_putRow {α : Type} [Inhabited α] {enc : α → Value} {w : World} {b : Nat} {d : Array α} {cur : Array Value} {e : TypeId} {fz : Nat × Nat} (h : w.heap[b]? = some (.cells cur e fz)) : ∃ cur', (putRow enc w b 0 d).heap[b]? = some (.cells cur' e fz) := by
 unfold putRow mapBlock
 simp only [Array.getElem?_modify, h, if_true]
 exact ⟨_, rfl⟩
def RetN3 (L : List Int) (w : World) (e : Ending) (w' : World) : Prop := ∃ b c cur fz, e = .returned (.slice (some ⟨b, 0, none⟩) L.length c) ∧ L.length ≤ c ∧ c ≤ 9223372036854775807 ∧ RdI w' (some ⟨b, 0, none⟩) L.length (iv L) ∧ w'.heap[b]? = some (.cells cur 3 fz) ∧ w.heap.size ≤ b ∧ Gr w w' ∧ (∀ i, i < L.length → w'.frozen? ⟨b, i, none⟩ = false)
theorem RetN3.rd {L : List Int} {w w' : World} {e : Ending} (h : RetN3 L w e w') : ∃ b c, e = .returned (.slice (some ⟨b, 0, none⟩) L.length c) ∧ Rd3 w' (some ⟨b, 0, none⟩) L.length c L ∧ (∀ w0, Old w0 w' 3 L.length (some ⟨b, 0, none⟩)) ∧ Gr w w' := by
 obtain ⟨b, c, cur, fz, rfl, h1, h2, h3, h4, _, h6, _⟩ := h
 exact ⟨b, c, rfl, ⟨rfl, h1, h2, (fun k => by cases k), h3⟩, fun w0 => .inr fun ad ha => by
  obtain rfl := Option.some.inj ha
  exact .inr ⟨cur, fz, h4⟩, h6⟩
theorem owns_N3 {w w' : World} {v : Value} {L : List Int} (h : w'.ownsRow w.heap.size 3 1 v L.length (L.map (Value.int .i64))) (hL : 0 < L.length) (g : Gr w w') : RetN3 L w (.returned v) w' := by
 have h0 := h
 obtain ⟨hl, hv⟩ := h
 rcases hv with ⟨rfl, hz⟩ | ⟨b, cap, cur, rfl, hb, hg, hnc, hcm, hcs, htake⟩
 ·omega
 refine ⟨b, cap, cur, _, rfl, hnc, by unfold maxLen at hcm; omega, .inr ⟨b, 0, rfl, fun i hi => ?_⟩, hg, hb, g, fun i _ => h0.frozenAt _⟩
 have hc := h0.cells (g := b) rfl i (.int .i64 (iv L i)) (by rw [List.getElem?_map, iv_get hi]; rfl)
 rw [add_flat rfl] at hc
 exact hc
theorem Clone3_any (a : Option Addr) (n c : Nat) (L : List Int) (w : World) (h : Rd3 w a n c L) (hn : 0 < n) (hN : n ≤ 1000000) : Calls Tryz.prog 73 #[.slice a n c] w (RetN3 L w) := by
 obtain ⟨rfl, h2, h3, h4, h5⟩ := h
 obtain ⟨b, o, rfl, hc⟩ := h5.at hn
 have h : Calls Tryz.prog 73 #[.slice (some ⟨b, o, none⟩) L.length c] w _ := Any.slices_Clone_int Tryz.clone73 b o L.length c L w (Nat.le_refl _) (by omega) (fun j hj => hc j hj)
 refine h.mono fun e w' ⟨v, e1, e2, _, e4⟩ => ?_
 rw [List.take_length] at e2
 subst e1
 exact owns_N3 e2 hn e4
theorem erase_at {L : List Int} {i p : Nat} (hi : i < L.length) (hp : p < L.length - 1) : (L.take i ++ L.drop (i + 1) ++ List.replicate (i + 1 - i) 0)[p]? = some (iv (L.eraseIdx i) p) := by
 have e : L.eraseIdx i = L.take i ++ L.drop (i + 1) := List.eraseIdx_eq_take_drop_succ ..
 rw [← e, List.getElem?_append_left (by rw [List.length_eraseIdx, if_pos hi]; omega), iv_get (by rw [List.length_eraseIdx, if_pos hi]; omega)]
theorem Delete3_any (b c i : Nat) (L : List Int) (cur : Array Value) (fz : Nat × Nat) (w : World) (hi : i < L.length) (hc : L.length ≤ c ∧ c ≤ 9223372036854775807) (hr : RdI w (some ⟨b, 0, none⟩) L.length (iv L)) (hf : ∀ i, i < L.length → w.frozen? ⟨b, i, none⟩ = false) (ht : w.heap[b]? = some (.cells cur 3 fz)) :
  Calls Tryz.prog 103 #[.slice (some ⟨b, 0, none⟩) L.length c, .int .i64 i, .int .i64 (i + 1 : Nat)] w fun e w' => ∃ cur', e = .returned (.slice (some ⟨b, 0, none⟩) (L.length - 1) c) ∧ Wr b w w' ∧ RdI w' (some ⟨b, 0, none⟩) (L.length - 1) (iv (L.eraseIdx i)) ∧ w'.heap[b]? = some (.cells cur' 3 fz) := by
 obtain ⟨b', o', e0, hcc⟩ := hr.at (show 0 < L.length by omega)
 simp only [Option.some.injEq, Addr.mk.injEq, and_true] at e0
 obtain ⟨rfl, rfl⟩ := e0
 have hH : Holds (Value.int .i64) w b 0 L.toArray := fun j hj => by
  have hj' : j < L.length := by simpa using hj
  have := hcc j hj'
  rw [Nat.zero_add] at this ⊢
  refine ⟨?_, hf j hj'⟩
  rw [this]
  simp [iv, List.getD_eq_getElem?_getD, hj']
 have h : Calls Tryz.prog 103 #[.slice (some ⟨b, 0, none⟩) L.length c, .int .i64 i, .int .i64 (i + 1 : Nat)] w _ := Any.slices_Delete_int Tryz.del103 b 0 c i (i + 1) L w hH hc.1 (by omega) (by omega) (by omega)
 refine h.mono fun e w' ⟨e1, q, e2⟩ => ?_
 have hs : (L.take i ++ L.drop (i + 1) ++ List.replicate (i + 1 - i) 0).toArray.size = L.toArray.size := by simp; omega
 have H2 := holds_putRow (Value.int .i64) (Sort.ahead w q) b 0 _ _ (holds_ahead (Value.int .i64) w q b 0 _ hH) hs
 have G := grownBy_sortedI (w := w) (g := b) (n := q) (os := #[]) (L.take i ++ L.drop (i + 1) ++ List.replicate (i + 1 - i) 0).toArray
 rw [grow_empty] at G
 obtain ⟨cur', hcur⟩ := typed_putRow (enc := Value.int .i64) (d := (L.take i ++ L.drop (i + 1) ++ List.replicate (i + 1 - i) 0).toArray) (w := Sort.ahead w q) ht
 rw [← e2] at H2 G hcur
 refine ⟨cur', by rw [e1, show i + 1 - i = 1 by omega], G, .inr ⟨b, 0, rfl, fun p hp => ?_⟩, hcur⟩
 have k := H2 p (by simp; omega)
 rw [Nat.zero_add] at k ⊢
 rw [k.1]
 have g := erase_at hi hp
 congr 2
 simp only [List.getElem!_toArray, List.getElem!_eq_getElem?_getD]
 rw [g]
 rfl
theorem info3 : (Tryz.prog.info? 3).map (fun i => (i.zero, i.size, i.bytes)) = some (some (.int .i64 0), 1, 8) := by kernel_rfl
def OwnL (w0 w : World) (v : Value) (L : List Int) : Prop := w.ownsRow w0.heap.size 3 1 v L.length (L.map (Value.int .i64)) ∧ Gr w0 w
theorem OwnL.gr {w0 w w' : World} {v : Value} {L : List Int} (h : OwnL w0 w v L) (g : Gr w w') : OwnL w0 w' v L :=
 ⟨h.1.kept (row := none) ⟨g.os, g.tape, g.output, Gr.size g, fun k hk _ => Below.block g k hk⟩ (by cases v.ownBlock <;> simp), h.2.trans g⟩
theorem OwnL.nil (w : World) : OwnL w w (.slice none 0 0) [] := ⟨World.ownsRow_nil w _ _ _, Gr.refl w⟩
theorem OwnL.nil' {w0 w : World} (g : Gr w0 w) : OwnL w0 w (.slice none 0 0) [] := ⟨World.ownsRow_nil w _ _ _, g⟩
theorem OwnL.rd {w0 w : World} {v : Value} {L : List Int} (h : OwnL w0 w v L) : ∃ a c, v = .slice a L.length c ∧ Rd3 w a L.length c L ∧ Old w0 w 3 L.length a := owns3 h.1 (Nat.le_refl _)
section
variable {ops : Array Oper} {rest : List Oper} {o : Oper} {a : Act} {Q : Exit → Act → World → Prop}
theorem wp_cat_ints {o : Oper} {a : Act} {K : Act → World → Prop} {Q : Exit → Act → World → Prop} (s x : Operand)
  (ho : o.op = .call { callee := .builtin .append, args := #[s, x], argTypes := #[23, 23] })
  {w0 w : World} (v : Value) (L M : List Int) (hs : a.eval s = v) (hown : OwnL w0 w v L) (b off n c : Nat) (hx : a.eval x = .slice (some ⟨b, off, none⟩) n c) (hn : n = M.length) (hc : ∀ i, i < n → w.cell? ⟨b, off + i, none⟩ = some (.int .i64 (iv M i))) (hk : L.length + n ≤ 1000000)
  (h : ∀ v' w', OwnL w0 w' v' (L ++ M) → w.grownBy w' v.ownBlock → K (a.put o.dst v') w') : o.wp Tryz.prog a w K Q := by
 obtain ⟨i0, hi, hz0, hz1, hz2⟩ := info_int info3
 subst hn
 refine wp_append_own w s x 23 ho w0.heap.size 3 i0 (.int .i64 0) 1 8 Tryz.underlying23 hi hz0 hz1 hz2 rfl (by decide) v L.length (L.map (Value.int .i64)) hs hown.1 ⟨b, off, none⟩ M.length c (M.map (Value.int .i64)) hx (by simp) ?_ ?_ ?_ ?_ hown.2.size ?_
 ·intro j u hu
  have hj : j < M.length := by
   rcases Nat.lt_or_ge j M.length with q | q
   ·exact q
   rw [List.getElem?_eq_none (by simpa using q)] at hu; cases hu
  rw [List.getElem?_map, iv_get hj] at hu
  simp at hu
  rw [add_flat rfl, ← hu]
  exact hc j hj
 ·intro u hu
  obtain ⟨z, _, rfl⟩ := List.mem_map.1 hu
  rfl
 ·unfold maxLen; omega
 ·omega
 intro v' w' h1 h2 _
 rw [← List.map_append] at h1
 refine h v' w' ⟨?_, hown.2.grown h2 fun k hk => (hown.1.lt k hk).1⟩ h2
 rw [List.length_append]; exact h1
theorem wpList_cat_ints (hgd : o.guard = none) (s x : Operand)
  (ho : o.op = .call { callee := .builtin .append, args := #[s, x], argTypes := #[23, 23] })
  {w0 w : World} (v : Value) (L M : List Int) (hs : a.eval s = v) (hown : OwnL w0 w v L) (b off n c : Nat) (hx : a.eval x = .slice (some ⟨b, off, none⟩) n c) (hn : n = M.length) (hc : ∀ i, i < n → w.cell? ⟨b, off + i, none⟩ = some (.int .i64 (iv M i))) (hk : L.length + n ≤ 1000000)
  (h : ∀ v' w', OwnL w0 w' v' (L ++ M) → w.grownBy w' v.ownBlock → wpList Tryz.prog ops Q rest (a.put o.dst v') w') : wpList Tryz.prog ops Q (o :: rest) a w :=
 wpList_plain hgd fun _ hK => wp_cat_ints s x ho v L M hs hown b off n c hx hn hc hk fun v' w' h1 h2 => hK _ _ (h v' w' h1 h2)
end
theorem Grow3_any (z : Int) (k : Nat) (hz : z = k) (h1 : 1 ≤ k) (hk : k ≤ 100000) (w0 w : World) (g : Gr w0 w) : Calls Tryz.prog 168 #[.slice none 0 0, .int .i64 z] w fun e w' => ∃ v, e = .returned v ∧ OwnL w0 w' v [] ∧ Gr w0 w' := by
 subst hz
 obtain ⟨i0, hi, hz0, hz1, hz2⟩ := info_int info3
 have h : Calls Tryz.prog 168 #[.slice none 0 0, .int .i64 k] w _ := Any8.slices_Grow_grow Tryz.grow168 i0 _ hi hz0 (by rw [hz1]; omega) none 0 0 k [] w (Nat.le_refl _) (by omega) (by rw [hz2]; omega) (by omega) (by simp) (fun _ => rfl) (fun a ha => by cases ha)
 refine h.mono ?_
 rintro e w' ⟨rfl, rfl⟩
 have gg : Gr w0 (w.drew.alloc (.cells ((([] : List Value).toArray ++ Builtin.zeroCells (Value.int .i64 0).cells (0 + k - 0) ++ Builtin.zeroCells (Value.int .i64 0).cells (grownCap w (0 + k) 0 (Tryz.grow168_ren.t 25) - (0 + k)))) (Tryz.grow168_ren.t 25))) := (g.drew).alloc _
 have ge := grownCap_ge w (0 + k) 0 (Tryz.grow168_ren.t 25)
 have hm := grownCap_le_maxLen w (0 + k) 0 (Tryz.grow168_ren.t 25) (by unfold maxLen; omega)
 refine ⟨_, rfl, ⟨⟨rfl, .inr ⟨w.heap.size, _, _, rfl, g.size, heap_alloc_new w.drew _, Nat.zero_le _, hm, ?_, rfl⟩⟩, gg⟩, gg⟩
 simp only [Array.size_append, List.size_toArray, size_zeroCells, List.length_nil]
 have : (Value.int .i64 0).cells.size = 1 := rfl
 rw [this]
 omega
theorem Concat3_any (b o bb n c n' c' : Nat) (a' : Option Addr) (L M : List Int) (w : World) (hn : 1 ≤ n) (hnL : n = L.length) (hnM : n' = M.length) (h1 : n ≤ 1000) (h2 : n' ≤ 1000) (hr : ∀ i, i < n → w.cell? ⟨b, o + i, none⟩ = some (.int .i64 (iv L i))) (hr' : ∃ b' o', a' = some ⟨b', o', none⟩ ∧ ∀ i, i < n' → w.cell? ⟨b', o' + i, none⟩ = some (.int .i64 (iv M i)))
  (hb0 : w.cell? ⟨bb, 0, none⟩ = some (.slice (some ⟨b, o, none⟩) n c)) (hb1 : w.cell? ⟨bb, 1, none⟩ = some (.slice a' n' c')) :
  Calls Tryz.prog 131 #[.slice (some ⟨bb, 0, none⟩) 2 2] w (RetN3 (L ++ M) w) := by
 obtain ⟨b', o', rfl, hr'⟩ := hr'
 have HR := Lh (fun w1 (g : Gr w w1) => show ∀ i, i < n → w1.cell? ⟨b, o + i, none⟩ = some (.int .i64 (iv L i)) from fun i hi => g.cell (hr i hi))
 have HR' := Lh (fun w1 (g : Gr w w1) => show ∀ i, i < n' → w1.cell? ⟨b', o' + i, none⟩ = some (.int .i64 (iv M i)) from fun i hi => g.cell (hr' i hi))
 have B0 := Lh hb0
 have B1 := Lh hb1
 have HN := Lh (And.intro hnL (And.intro hnM (And.intro h1 (And.intro h2 hn))))
 have s1 : IntKind.i64.wrap ((n : Int) + (n' : Int)) = (n : Int) + (n' : Int) := IntWalk.i64_in _ (by omega)
 have s2 : IntKind.i64.wrap (n : Int) = (n : Int) := IntWalk.i64_in _ (by omega)
 clear hr hr' hb0 hb1 hnL hnM h1 h2 hn
 go_enter Tryz.func131, Tryz.ntmps131
 go_wp2
 go_loopw [3, 11] (fun sz si wr => wr = w ∧ ((si = .int .i64 0 ∧ sz = .int .i64 0) ∨ (si = .int .i64 1 ∧ sz = .int .i64 n) ∨ (si = .int .i64 2 ∧ sz = .int .i64 ((n : Int) + (n' : Int))))) (fun _ si _ => 2 - (intOf si).toNat)
 case atStart => exact ⟨rfl, .inl ⟨rfl, rfl⟩⟩
 case round =>
  obtain ⟨hw, hs⟩ := hrel
  subst hw
  rcases hs with ⟨rfl, rfl⟩ | ⟨rfl, rfl⟩ | ⟨rfl, rfl⟩
  ·have b0 := B0.out
   have z1 : decide ((n : Int) < 0) = false := by simp
   go_wp2_with fail
   go_roundw
   case rel => exact ⟨by trivial, .inr (.inl ⟨rfl, rfl⟩)⟩
   case measure => simp [intOf]
  ·have b1 := B1.out
   have z1 : decide ((n : Int) + (n' : Int) < 0) = false := by rw [decide_eq_false_iff_not]; clear s1 s2; omega
   go_wp2_with fail
   go_roundw
   case rel => exact ⟨by trivial, .inr (.inr ⟨rfl, rfl⟩)⟩
   case measure => simp [intOf]
  have CG := Lh (Grow3_any ((n : Int) + (n' : Int)) (n + n') (by omega) (by have := HN.out; omega) (by have := HN.out; omega) wr wr (Gr.refl wr))
  go_wp2_with (go_at_call 168; (with_reducible refine CG.out.mono ?_); rintro e w1 ⟨v1, rfl, ho1, g1⟩; have OW := Lh ho1; have GW := Lh g1; clear ho1 g1)
  go_loopw [6, 27] (fun sv si wx => (si = .int .i64 0 ∧ OwnL wr wx sv []) ∨ (si = .int .i64 1 ∧ OwnL wr wx sv L) ∨ (si = .int .i64 2 ∧ OwnL wr wx sv (L ++ M))) (fun _ si _ => 2 - (intOf si).toNat)
  case atStart => exact .inl ⟨rfl, OW.out⟩
  case round =>
   rcases hrel with ⟨rfl, ho⟩ | ⟨rfl, ho⟩ | ⟨rfl, ho⟩
   ·have b0 := ho.2.cell B0.out
    have HO := Lh ho
    have hc := Lh (HR.out _ ho.2)
    clear ho
    go_wp2_with (at_builtin; go_must (refine wpList_cat_ints rfl _ _ rfl _ [] L rfl HO.out b o n c rfl HN.out.1 hc.out (by have := HN.out; simp; omega) ?_); intro v2 w2 hown2 _; have H2 := Lh hown2; clear hown2)
    go_roundw
    case rel => exact .inr (.inl ⟨rfl, by simpa using H2.out⟩)
    case measure => simp [intOf]
   ·have b1 := ho.2.cell B1.out
    have HO := Lh ho
    have hc := Lh (HR'.out _ ho.2)
    clear ho
    go_wp2_with (at_builtin; go_must (refine wpList_cat_ints rfl _ _ rfl _ L M rfl HO.out b' o' n' c' rfl HN.out.2.1 hc.out (by have := HN.out; omega) ?_); intro v2 w2 hown2 _; have H2 := Lh hown2; clear hown2)
    go_roundw
    case rel => exact .inr (.inr ⟨rfl, H2.out⟩)
    case measure => simp [intOf]
   have HO := Lh ho
   clear ho
   go_wp2_with fail
   go_ret
   exact owns_N3 HO.out.1 (by have := HN.out; simp; omega) HO.out.2
end Go.Proofs.YtehdemcfeoiecaaGreatDoor
namespace Go.Proofs.YtehdemcfeoiecaaGreatDoor
open Go.RowKit Go.Firn Go.Firn.Tb
abbrev Tri := Int × Int × Int
def pk3 (L : List Tri) : List Value := L.flatMap fun x => [.int .i64 x.1, .int .i64 x.2.1, .int .i64 x.2.2]
theorem pk3_append (a b : List Tri) : pk3 (a ++ b) = pk3 a ++ pk3 b := by simp [pk3]
theorem pk3_at : ∀ (L : List Tri) (i : Nat) (x : Tri), L[i]? = some x → (pk3 L)[i * 3]? = some (.int .i64 x.1) ∧ (pk3 L)[i * 3 + 1]? = some (.int .i64 x.2.1) ∧ (pk3 L)[i * 3 + 2]? = some (.int .i64 x.2.2)
 | [], i, x, h => by simp at h
 | m :: ms, i, x, h => by
  have e : pk3 (m :: ms) = .int .i64 m.1 :: .int .i64 m.2.1 :: .int .i64 m.2.2 :: pk3 ms := rfl
  cases i with
  | zero => simp at h; subst h; rw [e]; exact ⟨rfl, rfl, rfl⟩
  | succ i =>
   have := pk3_at ms i x (by simpa using h)
   rw [e, show (i + 1) * 3 = i * 3 + 1 + 1 + 1 by omega]
   simpa using this
def Rd33 (w : World) (a : Option Addr) (n c : Nat) (L : List Tri) : Prop := n = L.length ∧ n ≤ c ∧ c ≤ 9223372036854775807 ∧ (a = none → c = 0) ∧ (n = 0 ∨ ∃ b, a = some ⟨b, 0, none⟩ ∧ ∀ i x, L[i]? = some x → w.cell? ⟨b, i * 3, none⟩ = some (.int .i64 x.1) ∧ w.cell? ⟨b, i * 3 + 1, none⟩ = some (.int .i64 x.2.1) ∧ w.cell? ⟨b, i * 3 + 2, none⟩ = some (.int .i64 x.2.2))
theorem Rd33.gr {w w' : World} {a : Option Addr} {n c : Nat} {L : List Tri} (h : Rd33 w a n c L) (g : Gr w w') : Rd33 w' a n c L := by
 obtain ⟨h1, h2, h3, h4, h5⟩ := h
 refine ⟨h1, h2, h3, h4, ?_⟩
 rcases h5 with h5 | ⟨b, e, hc⟩
 ·exact .inl h5
 exact .inr ⟨b, e, fun i x hi => ⟨g.cell (hc i x hi).1, g.cell (hc i x hi).2.1, g.cell (hc i x hi).2.2⟩⟩
theorem Rd33.at {w : World} {a : Option Addr} {n c : Nat} {L : List Tri} (h : Rd33 w a n c L) {k : Nat} (hk : k < n) : ∃ b x, a = some ⟨b, 0, none⟩ ∧ L[k]? = some x ∧ w.cell? ⟨b, k * 3, none⟩ = some (.int .i64 x.1) ∧ w.cell? ⟨b, k * 3 + 1, none⟩ = some (.int .i64 x.2.1) ∧ w.cell? ⟨b, k * 3 + 2, none⟩ = some (.int .i64 x.2.2) := by
 obtain ⟨h1, h2, h3, h4, h5⟩ := h
 rcases h5 with h5 | ⟨b, e, hc⟩
 ·omega
 have hx : L[k]? = some (L[k]'(by omega)) := List.getElem?_eq_getElem (by omega)
 exact ⟨b, _, e, hx, hc k _ hx⟩
def OwnT (e : TypeId) (w0 w : World) (v : Value) (L : List Tri) : Prop := w.ownsRow w0.heap.size e 3 v L.length (pk3 L) ∧ Gr w0 w
theorem OwnT.nil' {e : TypeId} {w0 w : World} (g : Gr w0 w) : OwnT e w0 w (.slice none 0 0) [] := ⟨World.ownsRow_nil w _ _ _, g⟩
theorem OwnT.gr {e : TypeId} {w0 w w' : World} {v : Value} {L : List Tri} (h : OwnT e w0 w v L) (g : Gr w w') : OwnT e w0 w' v L :=
 ⟨h.1.kept (row := none) ⟨g.os, g.tape, g.output, Gr.size g, fun k hk _ => Below.block g k hk⟩ (by cases v.ownBlock <;> simp), h.2.trans g⟩
theorem OwnT.rd {e : TypeId} {w0 w : World} {v : Value} {L : List Tri} (h : OwnT e w0 w v L) : ∃ a c, v = .slice a L.length c ∧ Rd33 w a L.length c L := by
 have h0 := h.1
 obtain ⟨hl, hv⟩ := h.1
 rcases hv with ⟨rfl, hz⟩ | ⟨g, cap, cur, rfl, hb, hg, hnc, hcm, hcs, htake⟩
 ·exact ⟨none, 0, by rw [hz], rfl, by omega, by omega, fun _ => rfl, .inl hz⟩
 refine ⟨_, _, rfl, rfl, hnc, by unfold maxLen at hcm; omega, (fun k => by cases k), .inr ⟨g, rfl, fun i x hi => ?_⟩⟩
 obtain ⟨p0, p1, p2⟩ := pk3_at L i x hi
 have c0 := h0.cells (g := g) rfl _ _ p0
 have c1 := h0.cells (g := g) rfl _ _ p1
 have c2 := h0.cells (g := g) rfl _ _ p2
 rw [add_flat rfl] at c0 c1 c2
 simp only [Nat.zero_add] at c0 c1 c2
 exact ⟨c0, c1, c2⟩
theorem OwnT.other {e : TypeId} {w0 w w' : World} {v v2 : Value} {L : List Tri} (h : OwnT e w0 w v L) {e2 : TypeId} {base s2 n2 : Nat} {X : List Value} (h2 : w.ownsRow base e2 s2 v2 n2 X) (hne : e ≠ e2) (hb : w0.heap.size ≤ base) (g : w.grownBy w' v2.ownBlock) : OwnT e w0 w' v L := by
 have g0 : Gr w0 w' := h.2.grown g fun k hk => Nat.le_trans hb (h2.lt k hk).1
 refine ⟨h.1.kept g ?_, g0⟩
 obtain ⟨_, hv⟩ := h.1
 obtain ⟨_, hv2⟩ := h2
 rcases hv with ⟨rfl, _⟩ | ⟨b, cap, cur, rfl, _, hg, _⟩
 ·exact .inl rfl
 rcases hv2 with ⟨rfl, _⟩ | ⟨b2, cap2, cur2, rfl, _, hg2, _⟩
 ·exact .inr (by simp [Value.ownBlock])
 refine .inr fun k => ?_
 simp only [Value.ownBlock, Option.some.injEq] at k
 subst k
 rw [hg] at hg2
 simp only [Option.some.injEq, Obj.cells.injEq] at hg2
 exact hne hg2.2.1
theorem OwnL.other {w0 w w' : World} {v v2 : Value} {L : List Int} (h : OwnL w0 w v L) {e2 : TypeId} {base s2 n2 : Nat} {X : List Value} (h2 : w.ownsRow base e2 s2 v2 n2 X) (hne : 3 ≠ e2) (hb : w0.heap.size ≤ base) (g : w.grownBy w' v2.ownBlock) : OwnL w0 w' v L := by
 have g0 : Gr w0 w' := h.2.grown g fun k hk => Nat.le_trans hb (h2.lt k hk).1
 refine ⟨h.1.kept g ?_, g0⟩
 obtain ⟨_, hv⟩ := h.1
 obtain ⟨_, hv2⟩ := h2
 rcases hv with ⟨rfl, _⟩ | ⟨b, cap, cur, rfl, _, hg, _⟩
 ·exact .inl rfl
 rcases hv2 with ⟨rfl, _⟩ | ⟨b2, cap2, cur2, rfl, _, hg2, _⟩
 ·exact .inr (by simp [Value.ownBlock])
 refine .inr fun k => ?_
 simp only [Value.ownBlock, Option.some.injEq] at k
 subst k
 rw [hg] at hg2
 simp only [Option.some.injEq, Obj.cells.injEq] at hg2
 exact hne hg2.2.1
def Info33 (e : TypeId) : Prop := ∃ i, Tryz.prog.info? e = some i ∧ i.zero = some (.agg #[.int .i64 0, .int .i64 0, .int .i64 0]) ∧ i.size = 3 ∧ i.bytes = 24
theorem infoSt : (Tryz.prog.info? 103).map (fun i => (i.zero, i.size, i.bytes)) = some (some (.agg #[.int .i64 0, .int .i64 0, .int .i64 0]), 3, 24) := by kernel_rfl
theorem infoWd : (Tryz.prog.info? 128).map (fun i => (i.zero, i.size, i.bytes)) = some (some (.agg #[.int .i64 0, .int .i64 0, .int .i64 0]), 3, 24) := by kernel_rfl
theorem info_step : Info33 103 := by
 have h := infoSt
 unfold Info33
 cases hi : Tryz.prog.info? 103 with
 | none => rw [hi] at h; cases h
 | some i => rw [hi] at h; simp at h; exact ⟨i, rfl, h.1, h.2.1, h.2.2⟩
theorem info_word : Info33 128 := by
 have h := infoWd
 unfold Info33
 cases hi : Tryz.prog.info? 128 with
 | none => rw [hi] at h; cases h
 | some i => rw [hi] at h; simp at h; exact ⟨i, rfl, h.1, h.2.1, h.2.2⟩
section
variable {ops : Array Oper} {rest : List Oper} {o : Oper} {a : Act} {Q : Exit → Act → World → Prop}
theorem wp_app_tri {o : Oper} {a : Act} {K : Act → World → Prop} {Q : Exit → Act → World → Prop} {e : TypeId} (hI : Info33 e) (s x : Operand) (t : TypeId)
  (ho : o.op = .call { callee := .builtin .append, args := #[s, x], argTypes := #[t, t] }) (ht : Tryz.prog.underlying t = some (.slice e))
  {w0 w : World} (v : Value) (L : List Tri) (hs : a.eval s = v) (hown : OwnT e w0 w v L)
  (g : Nat) (r : Tri) (hx : a.eval x = .slice (some ⟨g, 0, none⟩) 1 1) (hg : w.cell? ⟨g, 0, none⟩ = some (.int .i64 r.1) ∧ w.cell? ⟨g, 1, none⟩ = some (.int .i64 r.2.1) ∧ w.cell? ⟨g, 2, none⟩ = some (.int .i64 r.2.2)) (hk : L.length < 999999)
  (h : ∀ v' w', OwnT e w0 w' v' (L ++ [r]) → w.grownBy w' v.ownBlock → K (a.put o.dst v') w') : o.wp Tryz.prog a w K Q := by
 obtain ⟨i0, hi, hz0, hz1, hz2⟩ := hI
 refine wp_append_own w s x t ho w0.heap.size e i0 _ 3 24 ht hi hz0 hz1 hz2 rfl (by decide) v L.length (pk3 L) hs hown.1 ⟨g, 0, none⟩ 1 1 (pk3 [r]) hx rfl ?_ ?_ ?_ ?_ hown.2.size ?_
 ·intro j u hu
  rw [add_flat rfl, Nat.zero_add]
  have e : pk3 [r] = [.int .i64 r.1, .int .i64 r.2.1, .int .i64 r.2.2] := rfl
  rw [e] at hu
  rcases j with _ | _ | _ | j
  ·cases hu; exact hg.1
  ·cases hu; exact hg.2.1
  ·cases hu; exact hg.2.2
  simp at hu
 ·intro u hu
  have e : pk3 [r] = [.int .i64 r.1, .int .i64 r.2.1, .int .i64 r.2.2] := rfl
  rw [e] at hu
  simp at hu
  rcases hu with rfl | rfl | rfl <;> rfl
 ·unfold maxLen; omega
 ·omega
 intro v' w' h1 h2 _
 rw [← pk3_append] at h1
 refine h v' w' ⟨?_, hown.2.grown h2 fun k hk => (hown.1.lt k hk).1⟩ h2
 rw [List.length_append]
 exact h1
theorem wpList_app_tri {e : TypeId} (hI : Info33 e) (hgd : o.guard = none) (s x : Operand) (t : TypeId)
  (ho : o.op = .call { callee := .builtin .append, args := #[s, x], argTypes := #[t, t] }) (ht : Tryz.prog.underlying t = some (.slice e))
  {w0 w : World} (v : Value) (L : List Tri) (hs : a.eval s = v) (hown : OwnT e w0 w v L)
  (g : Nat) (r : Tri) (hx : a.eval x = .slice (some ⟨g, 0, none⟩) 1 1) (hg : w.cell? ⟨g, 0, none⟩ = some (.int .i64 r.1) ∧ w.cell? ⟨g, 1, none⟩ = some (.int .i64 r.2.1) ∧ w.cell? ⟨g, 2, none⟩ = some (.int .i64 r.2.2)) (hk : L.length < 999999)
  (h : ∀ v' w', OwnT e w0 w' v' (L ++ [r]) → w.grownBy w' v.ownBlock → wpList Tryz.prog ops Q rest (a.put o.dst v') w') : wpList Tryz.prog ops Q (o :: rest) a w :=
 wpList_plain hgd fun _ hK => wp_app_tri hI s x t ho ht v L hs hown g r hx hg hk fun v' w' h1 h2 => hK _ _ (h v' w' h1 h2)
end
theorem OwnL.take {w0 w : World} {a : Option Addr} {n c : Nat} {L : List Int} (h : OwnL w0 w (.slice a n c) L) {k : Nat} (hk : k ≤ L.length) (h0 : a = none → k = 0) : OwnL w0 w (.slice a k c) (L.take k) := by
 obtain ⟨⟨hl, hv⟩, g⟩ := h
 refine ⟨⟨?_, ?_⟩, g⟩
 ·rw [List.length_map, List.length_take]; omega
 rcases hv with ⟨e, hz⟩ | ⟨b, cap, cur, e, hb, hg, hnc, hcm, hcs, htake⟩
 ·cases e
  have : k = 0 := h0 rfl
  subst this
  exact .inl ⟨rfl, by simp⟩
 cases e
 refine .inr ⟨b, c, cur, ?_, hb, hg, ?_, hcm, hcs, ?_⟩
 ·rw [List.length_take, Nat.min_eq_left hk]
 ·rw [List.length_take]; omega
 rw [Nat.mul_one] at htake ⊢
 rw [List.length_take, Nat.min_eq_left hk, List.map_take, ← htake, List.take_take, Nat.min_eq_left (by simpa using hk)]
abbrev Sl := Option Addr × Nat × Nat
def pkl (raw : List Sl) : List Value := raw.map fun x => .slice x.1 x.2.1 x.2.2
def DatL (w0 w : World) (raw : List Sl) (LL : List (List Int)) : Prop := raw.length = LL.length ∧ ∀ (i : Nat) (x : Sl) (L : List Int), raw[i]? = some x → LL[i]? = some L → Rd3 w x.1 x.2.1 x.2.2 L ∧ Old w0 w 3 x.2.1 x.1
theorem DatL.gr {w0 w w' : World} {raw : List Sl} {LL : List (List Int)} (h : DatL w0 w raw LL) (g : Gr w w') : DatL w0 w' raw LL := ⟨h.1, fun i x L hx hL => by
 obtain ⟨h1, h2⟩ := h.2 i x L hx hL
 exact ⟨h1.gr g, h2.gr g⟩⟩
theorem DatL.wr {w0 w w' : World} {raw : List Sl} {LL : List (List Int)} (h : DatL w0 w raw LL) {b : Nat} {cur : Array Value} {e : TypeId} {fz : Nat × Nat} (hb : w.heap[b]? = some (.cells cur e fz)) (hne : 3 ≠ e) (h0 : w0.heap.size ≤ b) (g : Wr b w w') : DatL w0 w' raw LL := ⟨h.1, fun i x L hx hL => by
 obtain ⟨h1, h2⟩ := h.2 i x L hx hL
 have ho := h2.off h0 hb hne
 exact ⟨h1.wr g ho, h2.wr g ho⟩⟩
theorem DatL.nil (w0 w : World) : DatL w0 w [] [] := ⟨rfl, fun i x L hx _ => by simp at hx⟩
theorem DatL.snoc {w0 w : World} {raw : List Sl} {LL : List (List Int)} (h : DatL w0 w raw LL) {x : Sl} {L : List Int} (h1 : Rd3 w x.1 x.2.1 x.2.2 L) (h2 : Old w0 w 3 x.2.1 x.1) : DatL w0 w (raw ++ [x]) (LL ++ [L]) := by
 refine ⟨by simp [h.1], fun i y M hy hM => ?_⟩
 rcases Nat.lt_or_ge i raw.length with k | k
 ·rw [List.getElem?_append_left k] at hy
  rw [List.getElem?_append_left (by have := h.1; omega)] at hM
  exact h.2 i y M hy hM
 rw [List.getElem?_append_right k] at hy
 rw [List.getElem?_append_right (by have := h.1; omega)] at hM
 have hi : i - raw.length = 0 := by
  rcases Nat.eq_zero_or_pos (i - raw.length) with q | q
  ·exact q
  rw [List.getElem?_eq_none (by simp; omega)] at hy; cases hy
 rw [hi] at hy
 rw [← h.1, hi] at hM
 simp at hy hM
 subst hy; subst hM
 exact ⟨h1, h2⟩
def RdLs (w : World) (a : Option Addr) (n c : Nat) (LL : List (List Int)) : Prop := n = LL.length ∧ n ≤ c ∧ c ≤ 9223372036854775807 ∧ (a = none → c = 0) ∧ (n = 0 ∨ ∃ b o, a = some ⟨b, o, none⟩ ∧ ∀ i L, LL[i]? = some L → ∃ a1 n1 c1, w.cell? ⟨b, o + i, none⟩ = some (.slice a1 n1 c1) ∧ Rd3 w a1 n1 c1 L)
theorem RdLs.gr {w w' : World} {a : Option Addr} {n c : Nat} {LL : List (List Int)} (h : RdLs w a n c LL) (g : Gr w w') : RdLs w' a n c LL := by
 obtain ⟨h1, h2, h3, h4, h5⟩ := h
 refine ⟨h1, h2, h3, h4, ?_⟩
 rcases h5 with h5 | ⟨b, o, ha, hc⟩
 ·exact .inl h5
 refine .inr ⟨b, o, ha, fun i L hL => ?_⟩
 obtain ⟨a1, n1, c1, k1, k2⟩ := hc i L hL
 exact ⟨a1, n1, c1, g.cell k1, k2.gr g⟩
theorem RdLs.at {w : World} {a : Option Addr} {n c : Nat} {LL : List (List Int)} (h : RdLs w a n c LL) {k : Nat} (hk : k < n) : ∃ b o L a1 n1 c1, a = some ⟨b, o, none⟩ ∧ LL[k]? = some L ∧ w.cell? ⟨b, o + k, none⟩ = some (.slice a1 n1 c1) ∧ Rd3 w a1 n1 c1 L := by
 obtain ⟨h1, h2, h3, h4, h5⟩ := h
 rcases h5 with h5 | ⟨b, o, ha, hc⟩
 ·omega
 have hr : LL[k]? = some (LL[k]'(by omega)) := List.getElem?_eq_getElem (by omega)
 obtain ⟨a1, n1, c1, k1, k2⟩ := hc k _ hr
 exact ⟨b, o, _, a1, n1, c1, ha, hr, k1, k2⟩
def OwnLs (w0 w : World) (v : Value) (raw : List Sl) : Prop := w.ownsRow w0.heap.size 23 1 v raw.length (pkl raw) ∧ Gr w0 w
theorem OwnLs.nil' {w0 w : World} (g : Gr w0 w) : OwnLs w0 w (.slice none 0 0) [] := ⟨World.ownsRow_nil w _ _ _, g⟩
theorem OwnLs.gr {w0 w w' : World} {v : Value} {raw : List Sl} (h : OwnLs w0 w v raw) (g : Gr w w') : OwnLs w0 w' v raw :=
 ⟨h.1.kept (row := none) ⟨g.os, g.tape, g.output, Gr.size g, fun k hk _ => Below.block g k hk⟩ (by cases v.ownBlock <;> simp), h.2.trans g⟩
theorem OwnLs.other {w0 w w' : World} {v v2 : Value} {raw : List Sl} (h : OwnLs w0 w v raw) {e2 : TypeId} {base s2 n2 : Nat} {X : List Value} (h2 : w.ownsRow base e2 s2 v2 n2 X) (hne : 23 ≠ e2) (hb : w0.heap.size ≤ base) (g : w.grownBy w' v2.ownBlock) : OwnLs w0 w' v raw := by
 have g0 : Gr w0 w' := h.2.grown g fun k hk => Nat.le_trans hb (h2.lt k hk).1
 refine ⟨h.1.kept g ?_, g0⟩
 obtain ⟨_, hv⟩ := h.1
 obtain ⟨_, hv2⟩ := h2
 rcases hv with ⟨rfl, _⟩ | ⟨b, cap, cur, rfl, _, hg, _⟩
 ·exact .inl rfl
 rcases hv2 with ⟨rfl, _⟩ | ⟨b2, cap2, cur2, rfl, _, hg2, _⟩
 ·exact .inr (by simp [Value.ownBlock])
 refine .inr fun k => ?_
 simp only [Value.ownBlock, Option.some.injEq] at k
 subst k
 rw [hg] at hg2
 simp only [Option.some.injEq, Obj.cells.injEq] at hg2
 exact hne hg2.2.1
theorem OwnLs.rd {w0 w : World} {v : Value} {raw : List Sl} {LL : List (List Int)} (h : OwnLs w0 w v raw) (hd : DatL w0 w raw LL) : ∃ a c, v = .slice a raw.length c ∧ RdLs w a raw.length c LL := by
 have h0 := h.1
 obtain ⟨hl, hv⟩ := h.1
 rcases hv with ⟨rfl, hz⟩ | ⟨g, cap, cur, rfl, hb, hg, hnc, hcm, hcs, htake⟩
 ·exact ⟨none, 0, by rw [hz], hd.1, by omega, by omega, fun _ => rfl, .inl hz⟩
 refine ⟨_, _, rfl, hd.1, hnc, by unfold maxLen at hcm; omega, (fun k => by cases k), .inr ⟨g, 0, rfl, fun i L hL => ?_⟩⟩
 have hi : i < raw.length := by
  rw [hd.1]
  rcases Nat.lt_or_ge i LL.length with q | q
  ·exact q
  rw [List.getElem?_eq_none q] at hL; cases hL
 have hx := List.getElem?_eq_getElem hi
 have c0 := h0.cells (g := g) rfl i (.slice raw[i].1 raw[i].2.1 raw[i].2.2) (by unfold pkl; rw [List.getElem?_map, hx]; rfl)
 rw [add_flat rfl] at c0
 exact ⟨_, _, _, c0, (hd.2 i _ L hx hL).1⟩
theorem DatL.grown {w0 w w' : World} {raw : List Sl} {LL : List (List Int)} (h : DatL w0 w raw LL) {v2 : Value} {e2 : TypeId} {base s2 n2 : Nat} {X : List Value} (h2 : w.ownsRow base e2 s2 v2 n2 X) (hne : 3 ≠ e2) (hb : w0.heap.size ≤ base) (g : w.grownBy w' v2.ownBlock) : DatL w0 w' raw LL := by
 obtain ⟨_, hv2⟩ := h2
 rcases hv2 with ⟨rfl, _⟩ | ⟨b2, cap2, cur2, rfl, hb2, hg2, _⟩
 ·exact h.gr ((Gr.refl w).grown g fun k hk => by cases hk)
 exact h.wr hg2 hne (Nat.le_trans hb hb2) g
section
variable {ops : Array Oper} {rest : List Oper} {o : Oper} {a : Act} {Q : Exit → Act → World → Prop}
theorem infoIs : (Tryz.prog.info? 23).map (fun i => (i.zero, i.size, i.bytes)) = some (some (.slice none 0 0), 1, 24) := by kernel_rfl
theorem info_ints : ∃ i, Tryz.prog.info? 23 = some i ∧ i.zero = some (.slice none 0 0) ∧ i.size = 1 ∧ i.bytes = 24 := by
 have h := infoIs
 cases hi : Tryz.prog.info? 23 with
 | none => rw [hi] at h; cases h
 | some i => rw [hi] at h; simp at h; exact ⟨i, rfl, h.1, h.2.1, h.2.2⟩
theorem wp_app_sl {o : Oper} {a : Act} {K : Act → World → Prop} {Q : Exit → Act → World → Prop} (s x : Operand) (t : TypeId)
  (ho : o.op = .call { callee := .builtin .append, args := #[s, x], argTypes := #[t, t] }) (ht : Tryz.prog.underlying t = some (.slice 23))
  {w0 w : World} (v : Value) (raw : List Sl) (hs : a.eval s = v) (hown : OwnLs w0 w v raw)
  (g : Nat) (r : Sl) (hx : a.eval x = .slice (some ⟨g, 0, none⟩) 1 1) (hg : w.cell? ⟨g, 0, none⟩ = some (.slice r.1 r.2.1 r.2.2)) (hk : raw.length < 999999)
  (h : ∀ v' w', OwnLs w0 w' v' (raw ++ [r]) → w.grownBy w' v.ownBlock → K (a.put o.dst v') w') : o.wp Tryz.prog a w K Q := by
 obtain ⟨i0, hi, hz0, hz1, hz2⟩ := info_ints
 refine wp_append_own w s x t ho w0.heap.size 23 i0 _ 1 24 ht hi hz0 hz1 hz2 rfl (by decide) v raw.length (pkl raw) hs hown.1 ⟨g, 0, none⟩ 1 1 (pkl [r]) hx rfl ?_ ?_ ?_ ?_ hown.2.size ?_
 ·intro j u hu
  rw [add_flat rfl, Nat.zero_add]
  rcases j with _ | j
  ·cases hu; exact hg
  simp [pkl] at hu
 ·intro u hu
  simp [pkl] at hu
  subst hu
  rfl
 ·unfold maxLen; omega
 ·omega
 intro v' w' h1 h2 _
 have e : pkl raw ++ pkl [r] = pkl (raw ++ [r]) := by simp [pkl]
 rw [e] at h1
 refine h v' w' ⟨?_, hown.2.grown h2 fun k hk => (hown.1.lt k hk).1⟩ h2
 rw [List.length_append]
 exact h1
theorem wpList_app_sl (hgd : o.guard = none) (s x : Operand) (t : TypeId)
  (ho : o.op = .call { callee := .builtin .append, args := #[s, x], argTypes := #[t, t] }) (ht : Tryz.prog.underlying t = some (.slice 23))
  {w0 w : World} (v : Value) (raw : List Sl) (hs : a.eval s = v) (hown : OwnLs w0 w v raw)
  (g : Nat) (r : Sl) (hx : a.eval x = .slice (some ⟨g, 0, none⟩) 1 1) (hg : w.cell? ⟨g, 0, none⟩ = some (.slice r.1 r.2.1 r.2.2)) (hk : raw.length < 999999)
  (h : ∀ v' w', OwnLs w0 w' v' (raw ++ [r]) → w.grownBy w' v.ownBlock → wpList Tryz.prog ops Q rest (a.put o.dst v') w') : wpList Tryz.prog ops Q (o :: rest) a w :=
 wpList_plain hgd fun _ hK => wp_app_sl s x t ho ht v raw hs hown g r hx hg hk fun v' w' h1 h2 => hK _ _ (h v' w' h1 h2)
end
end Go.Proofs.YtehdemcfeoiecaaGreatDoor
namespace Go.Proofs.YtehdemcfeoiecaaGreatDoor.RE
open Go.RowKit Go.Firn Go.Firn.Tb
structure Rw where
 a : Option Addr
 n : Nat
 c : Nat
 fa : Option Addr
 fn : Nat
 fc : Nat
 y : Int
def Rep (w0 w : World) (x : Rw) (d : SL × Int) : Prop := RdP w x.fa x.fn x.fc d.1 ∧ Old w0 w 58 x.fn x.fa ∧ x.y = d.2
theorem Rep.gr {w0 w w' : World} {x : Rw} {d : SL × Int} (h : Rep w0 w x d) (g : Gr w w') : Rep w0 w' x d := ⟨h.1.gr g, h.2.1.gr g, h.2.2⟩
theorem rdS_wr {w w' : World} {a : Option Addr} {n b : Nat} {f : Nat → ByteArray} {g : Nat → Int} (h : RdS w a n f g) (k : Wr b w w') (ho : Off b n a) : RdS w' a n f g := by
 rcases h with h | ⟨b', o, ha, hc⟩
 ·exact .inl h
 rcases ho with ho | ho
 ·exact .inl ho
 exact .inr ⟨b', o, ha, fun i hi => ⟨k.cell (hc i hi).1 (show b' ≠ b from ho _ ha), k.cell (hc i hi).2 (show b' ≠ b from ho _ ha)⟩⟩
theorem rdP_wr {w w' : World} {a : Option Addr} {n c b : Nat} {L : SL} (h : RdP w a n c L) (g : Wr b w w') (ho : Off b n a) : RdP w' a n c L := ⟨h.1, h.2.1, h.2.2.1, h.2.2.2.1, rdS_wr h.2.2.2.2 g ho⟩
theorem Rep.wr {w0 w w' : World} {x : Rw} {d : SL × Int} (h : Rep w0 w x d) {b : Nat} {cur : Array Value} {e : TypeId} {fz : Nat × Nat} (hb : w.heap[b]? = some (.cells cur e fz)) (hne : 58 ≠ e) (h0 : w0.heap.size ≤ b) (g : Wr b w w') : Rep w0 w' x d :=
 ⟨rdP_wr h.1 g (h.2.1.off h0 hb hne), h.2.1.wr g (h.2.1.off h0 hb hne), h.2.2⟩
theorem old_of_rds {w : World} {a : Option Addr} {n : Nat} {f : Nat → ByteArray} {g : Nat → Int} (h : RdS w a n f g) (e : TypeId) : Old w w e n a := by
 rcases h with h | ⟨b, o, rfl, hc⟩
 ·exact .inl h
 rcases Nat.eq_zero_or_pos n with k | k
 ·exact .inl k
 refine .inr fun ad e => ?_
 obtain rfl := Option.some.inj e
 exact .inl (World.block_lt_of_cell? w _ (hc 0 k).1)
def pkr (raw : List Rw) : List Value := raw.flatMap fun x => [.slice x.a x.n x.c, .slice x.fa x.fn x.fc, .int .i64 x.y]
theorem pkr_length (raw : List Rw) : (pkr raw).length = raw.length * 3 := by
 induction raw with
 | nil => rfl
 | cons m ms ih =>
  have : pkr (m :: ms) = [.slice m.a m.n m.c, .slice m.fa m.fn m.fc, .int .i64 m.y] ++ pkr ms := rfl
  rw [this, List.length_append, ih]; simp; omega
theorem pkr_append (a b : List Rw) : pkr (a ++ b) = pkr a ++ pkr b := by simp [pkr]
theorem pkr_at : ∀ (raw : List Rw) (i : Nat) (x : Rw), raw[i]? = some x → (pkr raw)[i * 3]? = some (.slice x.a x.n x.c) ∧ (pkr raw)[i * 3 + 1]? = some (.slice x.fa x.fn x.fc) ∧ (pkr raw)[i * 3 + 2]? = some (.int .i64 x.y)
 | [], i, x, h => by simp at h
 | m :: ms, i, x, h => by
  have e : pkr (m :: ms) = .slice m.a m.n m.c :: .slice m.fa m.fn m.fc :: .int .i64 m.y :: pkr ms := rfl
  cases i with
  | zero => simp at h; subst h; rw [e]; exact ⟨rfl, rfl, rfl⟩
  | succ i =>
   have := pkr_at ms i x (by simpa using h)
   rw [e, show (i + 1) * 3 = i * 3 + 1 + 1 + 1 by omega]
   simpa using this
def RdR (w : World) (a : Option Addr) (n c : Nat) (raw : List Rw) : Prop := n = raw.length ∧ n ≤ c ∧ c ≤ 9223372036854775807 ∧ (a = none → c = 0) ∧ (n = 0 ∨ ∃ b o, a = some ⟨b, o, none⟩ ∧ ∀ i x, raw[i]? = some x → w.cell? ⟨b, o + i * 3, none⟩ = some (.slice x.a x.n x.c) ∧ w.cell? ⟨b, o + i * 3 + 1, none⟩ = some (.slice x.fa x.fn x.fc) ∧ w.cell? ⟨b, o + i * 3 + 2, none⟩ = some (.int .i64 x.y))
theorem RdR.gr {w w' : World} {a : Option Addr} {n c : Nat} {raw : List Rw} (h : RdR w a n c raw) (g : Gr w w') : RdR w' a n c raw := by
 obtain ⟨h1, h2, h3, h4, h5⟩ := h
 refine ⟨h1, h2, h3, h4, ?_⟩
 rcases h5 with h5 | ⟨b, o, e, hc⟩
 ·exact .inl h5
 exact .inr ⟨b, o, e, fun i x hi => ⟨g.cell (hc i x hi).1, g.cell (hc i x hi).2.1, g.cell (hc i x hi).2.2⟩⟩
theorem RdR.at {w : World} {a : Option Addr} {n c : Nat} {raw : List Rw} (h : RdR w a n c raw) {k : Nat} (hk : k < n) : ∃ b o x, a = some ⟨b, o, none⟩ ∧ raw[k]? = some x ∧ w.cell? ⟨b, o + k * 3, none⟩ = some (.slice x.a x.n x.c) ∧ w.cell? ⟨b, o + k * 3 + 1, none⟩ = some (.slice x.fa x.fn x.fc) ∧ w.cell? ⟨b, o + k * 3 + 2, none⟩ = some (.int .i64 x.y) := by
 obtain ⟨h1, h2, h3, h4, h5⟩ := h
 rcases h5 with h5 | ⟨b, o, e, hc⟩
 ·omega
 have hx : raw[k]? = some (raw[k]'(by omega)) := List.getElem?_eq_getElem (by omega)
 exact ⟨b, o, _, e, hx, hc k _ hx⟩
def Dat (w0 w : World) (raw : List Rw) (L : Tbl (SL × Int)) : Prop := raw.length = L.length ∧ ∀ (i : Nat) (x : Rw) (r : List Int × (SL × Int)), raw[i]? = some x → L[i]? = some r → Rd3 w x.a x.n x.c r.1 ∧ Old w0 w 3 x.n x.a ∧ Rep w0 w x r.2
theorem Dat.gr {w0 w w' : World} {raw : List Rw} {L : Tbl (SL × Int)} (h : Dat w0 w raw L) (g : Gr w w') : Dat w0 w' raw L := ⟨h.1, fun i x r hx hr => by
 obtain ⟨h1, h2, h3⟩ := h.2 i x r hx hr
 exact ⟨h1.gr g, h2.gr g, h3.gr g⟩⟩
theorem Dat.wr {w0 w w' : World} {raw : List Rw} {L : Tbl (SL × Int)} (h : Dat w0 w raw L) {b : Nat} {cur : Array Value} {e : TypeId} {fz : Nat × Nat} (hb : w.heap[b]? = some (.cells cur e fz)) (hne : 3 ≠ e) (hne58 : 58 ≠ e) (h0 : w0.heap.size ≤ b) (g : Wr b w w') : Dat w0 w' raw L := ⟨h.1, fun i x r hx hr => by
 obtain ⟨h1, h2, h3⟩ := h.2 i x r hx hr
 have ho := h2.off h0 hb hne
 exact ⟨h1.wr g ho, h2.wr g ho, h3.wr hb hne58 h0 g⟩⟩
theorem Dat.nil (w0 w : World) : Dat w0 w [] [] := ⟨rfl, fun i x r hx _ => by simp at hx⟩
theorem Dat.base {w0 w1 w : World} {raw : List Rw} {L : Tbl (SL × Int)} (h : Dat w0 w raw L) (g : w0.heap.size ≤ w1.heap.size) : Dat w1 w raw L := ⟨h.1, fun i x r hx hr => by
 obtain ⟨h1, h2, h3⟩ := h.2 i x r hx hr
 exact ⟨h1, h2.base g, h3.1, h3.2.1.base g, h3.2.2⟩⟩
theorem Dat.own {w0 w : World} {raw : List Rw} {L : Tbl (SL × Int)} (h : Dat w0 w raw L) : Dat w w raw L := ⟨h.1, fun i x r hx hr => by
 obtain ⟨h1, _, h3⟩ := h.2 i x r hx hr
 exact ⟨h1, Old.of_rd h1.2.2.2.2 3, h3.1, old_of_rds h3.1.2.2.2.2 58, h3.2.2⟩⟩
theorem Dat.snoc {w0 w : World} {raw : List Rw} {L : Tbl (SL × Int)} (h : Dat w0 w raw L) {x : Rw} {r : List Int × (SL × Int)} (h1 : Rd3 w x.a x.n x.c r.1) (h2 : Old w0 w 3 x.n x.a) (h3 : Rep w0 w x r.2) : Dat w0 w (raw ++ [x]) (L ++ [r]) := by
 refine ⟨by simp [h.1], fun i y s hy hs => ?_⟩
 rcases Nat.lt_or_ge i raw.length with k | k
 ·rw [List.getElem?_append_left k] at hy
  rw [List.getElem?_append_left (by have := h.1; omega)] at hs
  exact h.2 i y s hy hs
 rw [List.getElem?_append_right k] at hy
 rw [List.getElem?_append_right (by have := h.1; omega)] at hs
 have hi : i - raw.length = 0 := by
  rcases Nat.eq_zero_or_pos (i - raw.length) with q | q
  ·exact q
  rw [List.getElem?_eq_none (by simp; omega)] at hy; cases hy
 rw [hi] at hy
 rw [← h.1, hi] at hs
 simp at hy hs
 subst hy; subst hs
 exact ⟨h1, h2, h3⟩
theorem Dat.append {w0 w : World} {raw raw' : List Rw} {L L' : Tbl (SL × Int)} (h : Dat w0 w raw L) (h' : Dat w0 w raw' L') : Dat w0 w (raw ++ raw') (L ++ L') := by
 refine ⟨by simp [h.1, h'.1], fun i y s hy hs => ?_⟩
 rcases Nat.lt_or_ge i raw.length with k | k
 ·rw [List.getElem?_append_left k] at hy
  rw [List.getElem?_append_left (by have := h.1; omega)] at hs
  exact h.2 i y s hy hs
 rw [List.getElem?_append_right k] at hy
 rw [List.getElem?_append_right (by have := h.1; omega), ← h.1] at hs
 exact h'.2 _ y s hy hs
theorem Dat.at {w0 w : World} {raw : List Rw} {L : Tbl (SL × Int)} (h : Dat w0 w raw L) {k : Nat} {x : Rw} (hx : raw[k]? = some x) : ∃ r, L[k]? = some r ∧ Rd3 w x.a x.n x.c r.1 ∧ Old w0 w 3 x.n x.a ∧ Rep w0 w x r.2 := by
 have hk : k < raw.length := by
  rcases Nat.lt_or_ge k raw.length with q | q
  ·exact q
  rw [List.getElem?_eq_none q] at hx; cases hx
 have hr : L[k]? = some (L[k]'(by have := h.1; omega)) := List.getElem?_eq_getElem (by have := h.1; omega)
 exact ⟨_, hr, h.2 k x _ hx hr⟩
def RdT (w0 w : World) (a : Option Addr) (n c : Nat) (T : Tbl (SL × Int)) : Prop := ∃ raw, RdR w a n c raw ∧ Dat w0 w raw T
theorem RdT.gr {w0 w w' : World} {a : Option Addr} {n c : Nat} {T : Tbl (SL × Int)} (h : RdT w0 w a n c T) (g : Gr w w') : RdT w0 w' a n c T := by
 obtain ⟨raw, h1, h2⟩ := h
 exact ⟨raw, h1.gr g, h2.gr g⟩
theorem RdT.own {w0 w : World} {a : Option Addr} {n c : Nat} {T : Tbl (SL × Int)} (h : RdT w0 w a n c T) : RdT w w a n c T := by
 obtain ⟨raw, h1, h2⟩ := h
 exact ⟨raw, h1, h2.own⟩
theorem RdT.len {w0 w : World} {a : Option Addr} {n c : Nat} {T : Tbl (SL × Int)} (h : RdT w0 w a n c T) : n = T.length := by
 obtain ⟨raw, h1, h2⟩ := h
 exact h1.1.trans h2.1
def OwnR (w0 w : World) (v : Value) (raw : List Rw) : Prop := w.ownsRow w0.heap.size 81 3 v raw.length (pkr raw) ∧ Gr w0 w
theorem OwnR.nil' {w0 w : World} (g : Gr w0 w) : OwnR w0 w (.slice none 0 0) [] := ⟨World.ownsRow_nil w _ _ _, g⟩
theorem OwnR.nil (w : World) : OwnR w w (.slice none 0 0) [] := OwnR.nil' (Gr.refl w)
theorem OwnR.gr {w0 w w' : World} {v : Value} {raw : List Rw} (h : OwnR w0 w v raw) (g : Gr w w') : OwnR w0 w' v raw :=
 ⟨h.1.kept (row := none) ⟨g.os, g.tape, g.output, Gr.size g, fun k hk _ => Below.block g k hk⟩ (by cases v.ownBlock <;> simp), h.2.trans g⟩
theorem OwnR.alloc {w0 w : World} {v : Value} {raw : List Rw} (h : OwnR w0 w v raw) (o : Obj) : OwnR w0 (w.alloc o) v raw := h.gr ((Gr.refl w).alloc o)
theorem OwnR.drew {w0 w : World} {v : Value} {raw : List Rw} (h : OwnR w0 w v raw) : OwnR w0 w.drew v raw := h.gr ((Gr.refl w).drew)
theorem OwnR.rd {w0 w : World} {v : Value} {raw : List Rw} (h : OwnR w0 w v raw) : ∃ a c, v = .slice a raw.length c ∧ RdR w a raw.length c raw := by
 have h0 := h.1
 obtain ⟨hl, hv⟩ := h.1
 rcases hv with ⟨rfl, hz⟩ | ⟨g, cap, cur, rfl, hb, hg, hnc, hcm, hcs, htake⟩
 ·exact ⟨none, 0, by rw [hz], rfl, by omega, by omega, fun _ => rfl, .inl hz⟩
 refine ⟨_, _, rfl, rfl, hnc, by unfold maxLen at hcm; omega, (fun k => by cases k), .inr ⟨g, 0, rfl, fun i x hi => ?_⟩⟩
 obtain ⟨p0, p1, p2⟩ := pkr_at raw i x hi
 have c0 := h0.cells (g := g) rfl _ _ p0
 have c1 := h0.cells (g := g) rfl _ _ p1
 have c2 := h0.cells (g := g) rfl _ _ p2
 rw [add_flat rfl] at c0 c1 c2
 exact ⟨c0, by rw [Nat.add_assoc]; exact c1, by rw [Nat.add_assoc]; exact c2⟩
theorem OwnR.blk {w0 w : World} {v : Value} {raw : List Rw} (h : OwnR w0 w v raw) : (v = .slice none 0 0 ∧ raw = []) ∨ ∃ g c cur, v = .slice (some ⟨g, 0, none⟩) raw.length c ∧ raw.length ≤ c ∧ c ≤ 9223372036854775807 ∧ w0.heap.size ≤ g ∧ g < w.heap.size ∧ w.heap[g]? = some (.cells cur 81 (0, 0)) ∧ ∀ i x, raw[i]? = some x → w.cell? ⟨g, i * 3, none⟩ = some (.slice x.a x.n x.c) ∧ w.cell? ⟨g, i * 3 + 1, none⟩ = some (.slice x.fa x.fn x.fc) ∧ w.cell? ⟨g, i * 3 + 2, none⟩ = some (.int .i64 x.y) ∧ w.frozen? ⟨g, i * 3 + 1, none⟩ = false ∧ w.frozen? ⟨g, i * 3 + 2, none⟩ = false := by
 have h0 := h.1
 obtain ⟨hl, hv⟩ := h.1
 rcases hv with ⟨rfl, hz⟩ | ⟨g, cap, cur, rfl, hb, hg, hnc, hcm, hcs, htake⟩
 ·exact .inl ⟨rfl, List.length_eq_zero_iff.1 hz⟩
 refine .inr ⟨g, cap, cur, rfl, hnc, by unfold maxLen at hcm; omega, hb, (h0.lt g rfl).2, hg, fun i x hi => ?_⟩
 obtain ⟨p0, p1, p2⟩ := pkr_at raw i x hi
 have c0 := h0.cells (g := g) rfl _ _ p0
 have c1 := h0.cells (g := g) rfl _ _ p1
 have c2 := h0.cells (g := g) rfl _ _ p2
 rw [add_flat rfl] at c0 c1 c2
 simp only [Nat.zero_add] at c0 c1 c2
 exact ⟨c0, c1, c2, h0.frozenAt _, h0.frozenAt _⟩
theorem Dat.grown {w0 w w' : World} {v : Value} {raw raw' : List Rw} {L : Tbl (SL × Int)} (h : Dat w0 w raw' L) (ho : OwnR w0 w v raw) (g : w.grownBy w' v.ownBlock) : Dat w0 w' raw' L := by
 rcases ho.blk with ⟨rfl, _⟩ | ⟨b, c, cur, rfl, _, _, hb, _, hg, _⟩
 ·exact h.gr ((Gr.refl w).grown g fun k hk => by cases hk)
 exact h.wr hg (by decide) (by decide) hb g
theorem infoR : (Tryz.prog.info? 81).map (fun i => (i.zero, i.size, i.bytes)) = some (some (.agg #[.slice none 0 0, .slice none 0 0, .int .i64 0]), 3, 56) := by kernel_rfl
theorem info_row : ∃ i, Tryz.prog.info? 81 = some i ∧ i.zero = some (.agg #[.slice none 0 0, .slice none 0 0, .int .i64 0]) ∧ i.size = 3 ∧ i.bytes = 56 := by
 have h := infoR
 cases hi : Tryz.prog.info? 81 with
 | none => rw [hi] at h; cases h
 | some i => rw [hi] at h; simp at h; exact ⟨i, rfl, h.1, h.2.1, h.2.2⟩
theorem wp_cat_row {o : Oper} {a : Act} {K : Act → World → Prop} {Q : Exit → Act → World → Prop} (s x : Operand) (t : TypeId)
  (ho : o.op = .call { callee := .builtin .append, args := #[s, x], argTypes := #[t, t] }) (ht : Tryz.prog.underlying t = some (.slice 81))
  {w0 w : World} (v : Value) (raw : List Rw) (hs : a.eval s = v) (hown : OwnR w0 w v raw)
  (b off n c : Nat) (X : List Rw) (hx : a.eval x = .slice (some ⟨b, off, none⟩) n c) (hX : X.length = n) (hc : ∀ i x, X[i]? = some x → w.cell? ⟨b, off + i * 3, none⟩ = some (.slice x.a x.n x.c) ∧ w.cell? ⟨b, off + i * 3 + 1, none⟩ = some (.slice x.fa x.fn x.fc) ∧ w.cell? ⟨b, off + i * 3 + 2, none⟩ = some (.int .i64 x.y)) (hk : raw.length + n ≤ 1000000)
  (h : ∀ v' w', OwnR w0 w' v' (raw ++ X) → w.grownBy w' v.ownBlock → K (a.put o.dst v') w') : o.wp Tryz.prog a w K Q := by
 obtain ⟨i0, hi, hz0, hz1, hz2⟩ := info_row
 refine wp_append_own w s x t ho w0.heap.size 81 i0 _ 3 56 ht hi hz0 hz1 hz2 rfl (by decide) v raw.length (pkr raw) hs hown.1 ⟨b, off, none⟩ n c (pkr X) hx (by rw [pkr_length, hX]) ?_ ?_ ?_ ?_ hown.2.size ?_
 ·intro j u hu
  rw [add_flat rfl]
  have hj : j < n * 3 := by
   rcases Nat.lt_or_ge j (n * 3) with h | h
   ·exact h
   rw [List.getElem?_eq_none (by rw [pkr_length, hX]; exact h)] at hu; cases hu
  obtain ⟨q, hget⟩ : ∃ q, X[j / 3]? = some q := ⟨_, List.getElem?_eq_getElem (show j / 3 < X.length by omega)⟩
  obtain ⟨p0, p1, p2⟩ := pkr_at X (j / 3) _ hget
  obtain ⟨k0, k1, k2⟩ := hc (j / 3) _ hget
  rcases (by omega : j % 3 = 0 ∨ j % 3 = 1 ∨ j % 3 = 2) with h | h | h
  ·have ej : j = j / 3 * 3 := by omega
   rw [ej, p0] at hu
   cases hu
   rw [show off + j = off + j / 3 * 3 by omega]
   exact k0
  ·have ej : j = j / 3 * 3 + 1 := by omega
   rw [ej, p1] at hu
   cases hu
   rw [show off + j = off + j / 3 * 3 + 1 by omega]
   exact k1
  have ej : j = j / 3 * 3 + 2 := by omega
  rw [ej, p2] at hu
  cases hu
  rw [show off + j = off + j / 3 * 3 + 2 by omega]
  exact k2
 ·intro u hu
  unfold pkr at hu
  rw [List.mem_flatMap] at hu
  obtain ⟨m, _, hm⟩ := hu
  simp at hm
  rcases hm with rfl | rfl | rfl <;> rfl
 ·unfold maxLen; omega
 ·omega
 intro v' w' h1 h2 _
 rw [← pkr_append] at h1
 refine h v' w' ⟨?_, hown.2.grown h2 fun k hk => (hown.1.lt k hk).1⟩ h2
 rw [List.length_append, hX]
 exact h1
section
variable {ops : Array Oper} {rest : List Oper} {o : Oper} {a : Act} {Q : Exit → Act → World → Prop}
theorem wpList_cat_row (hgd : o.guard = none) (s x : Operand) (t : TypeId)
  (ho : o.op = .call { callee := .builtin .append, args := #[s, x], argTypes := #[t, t] }) (ht : Tryz.prog.underlying t = some (.slice 81))
  {w0 w : World} (v : Value) (raw : List Rw) (hs : a.eval s = v) (hown : OwnR w0 w v raw)
  (b off n c : Nat) (X : List Rw) (hx : a.eval x = .slice (some ⟨b, off, none⟩) n c) (hX : X.length = n) (hc : ∀ i x, X[i]? = some x → w.cell? ⟨b, off + i * 3, none⟩ = some (.slice x.a x.n x.c) ∧ w.cell? ⟨b, off + i * 3 + 1, none⟩ = some (.slice x.fa x.fn x.fc) ∧ w.cell? ⟨b, off + i * 3 + 2, none⟩ = some (.int .i64 x.y)) (hk : raw.length + n ≤ 1000000)
  (h : ∀ v' w', OwnR w0 w' v' (raw ++ X) → w.grownBy w' v.ownBlock → wpList Tryz.prog ops Q rest (a.put o.dst v') w') : wpList Tryz.prog ops Q (o :: rest) a w :=
 wpList_plain hgd fun _ hK => wp_cat_row s x t ho ht v raw hs hown b off n c X hx hX hc hk fun v' w' h1 h2 => hK _ _ (h v' w' h1 h2)
theorem wpList_app_row (hgd : o.guard = none) (s x : Operand) (t : TypeId)
  (ho : o.op = .call { callee := .builtin .append, args := #[s, x], argTypes := #[t, t] }) (ht : Tryz.prog.underlying t = some (.slice 81))
  {w0 w : World} (v : Value) (raw : List Rw) (hs : a.eval s = v) (hown : OwnR w0 w v raw)
  (g : Nat) (r : Rw) (hx : a.eval x = .slice (some ⟨g, 0, none⟩) 1 1) (hg : w.cell? ⟨g, 0, none⟩ = some (.slice r.a r.n r.c) ∧ w.cell? ⟨g, 1, none⟩ = some (.slice r.fa r.fn r.fc) ∧ w.cell? ⟨g, 2, none⟩ = some (.int .i64 r.y)) (hk : raw.length < 999999)
  (h : ∀ v' w', OwnR w0 w' v' (raw ++ [r]) → w.grownBy w' v.ownBlock → wpList Tryz.prog ops Q rest (a.put o.dst v') w') : wpList Tryz.prog ops Q (o :: rest) a w :=
 wpList_cat_row hgd s x t ho ht v raw hs hown g 0 1 1 [r] hx rfl (fun i y hy => by
  cases i with
  | zero => simp at hy; subst hy; exact hg
  | succ i => simp at hy) (by omega) h
end
end Go.Proofs.YtehdemcfeoiecaaGreatDoor.RE
namespace Go.Proofs.YtehdemcfeoiecaaGreatDoor
open Go.RowKit Go.Firn Go.Firn.Tb
theorem wpIn_run {F : Fence} {n : Nat} {P : Program} {o : Oper} {a : Act} {K : Act → World → Prop} {Q : Exit → Act → World → Prop} (s x : Operand) (t : TypeId) (ho : o.op = .call { callee := .builtin .append, args := #[s, x], argTypes := #[t, t] })
  {w w' : World} {u v r : Value} (hs : a.eval s = u) (hx : a.eval x = v) (hrun : (Builtin.append_ #[t, t] o.type #[u, v]).run P w = .ok r w') (h : K (a.put o.dst r) w') : o.wpIn F n P a w K Q := by
 unfold Oper.wpIn
 refine ⟨?_, ?_⟩
 ·simp [Oper.about, ho, resolve, Target.leads, Sem.run_pure]
 rw [Oper.semAt_plain F _ _ (by rw [ho]; intro c hc'; cases hc')]
 simp [execOp, ho, resolve, invoke, builtin, hs, hx, hrun, Result.andThen]
 exact h
theorem wpIn_cat_ints {F : Fence} {fn : Nat} {o : Oper} {a : Act} {K : Act → World → Prop} {Q : Exit → Act → World → Prop} (s x : Operand)
  (ho : o.op = .call { callee := .builtin .append, args := #[s, x], argTypes := #[23, 23] })
  {w0 w : World} (v : Value) (L M : List Int) (hs : a.eval s = v) (hown : OwnL w0 w v L) (b off n c : Nat) (hx : a.eval x = .slice (some ⟨b, off, none⟩) n c) (hn : n = M.length) (hc : ∀ i, i < n → w.cell? ⟨b, off + i, none⟩ = some (.int .i64 (iv M i))) (hk : L.length + n ≤ 1000000)
  (h : ∀ v' w', OwnL w0 w' v' (L ++ M) → w.grownBy w' v.ownBlock → K (a.put o.dst v') w') : o.wpIn F fn Tryz.prog a w K Q := by
 obtain ⟨i0, hi, hz0, hz1, hz2⟩ := info_int info3
 subst hn
 obtain ⟨v', w', hr, h1, h2, _⟩ := run_append_own (P := Tryz.prog) w w0.heap.size 23 o.type 3 i0 (.int .i64 0) 1 8 Tryz.underlying23 hi hz0 hz1 hz2 rfl (by decide) v L.length (L.map (Value.int .i64)) hown.1 ⟨b, off, none⟩ M.length c (M.map (Value.int .i64)) (by simp)
  (fun j u hu => by
   have hj : j < M.length := by
    rcases Nat.lt_or_ge j M.length with q | q
    ·exact q
    rw [List.getElem?_eq_none (by simpa using q)] at hu; cases hu
   rw [List.getElem?_map, iv_get hj] at hu
   simp at hu
   rw [add_flat rfl, ← hu]
   exact hc j hj)
  (fun u hu => by
   obtain ⟨z, _, rfl⟩ := List.mem_map.1 hu
   rfl)
  (by unfold maxLen; omega) (by omega) hown.2.size
 rw [← List.map_append] at h1
 exact wpIn_run s x 23 ho hs hx hr (h v' w' ⟨by rw [List.length_append]; exact h1, hown.2.grown h2 fun k hk => (hown.1.lt k hk).1⟩ h2)
theorem OwnL.base {w0 w1 w : World} {v : Value} {L : List Int} (h : OwnL w1 w v L) (g : Gr w0 w1) : OwnL w0 w v L := by
 obtain ⟨⟨hl, hv⟩, g2⟩ := h
 refine ⟨⟨hl, ?_⟩, g.trans g2⟩
 rcases hv with h | ⟨b, cap, cur, e, hb, r⟩
 ·exact .inl h
 exact .inr ⟨b, cap, cur, e, Nat.le_trans g.size hb, r⟩
theorem OwnL.lit0 (w : World) : OwnL w (w.alloc (.cells #[] 3)) (.slice (some ⟨w.heap.size, 0, none⟩) 0 0) [] :=
 ⟨World.ownsRow_lit w #[] 0 (Nat.le_refl _) (by unfold maxLen; omega) rfl, (Gr.refl w).alloc _⟩
theorem lit1_at (w : World) (x : Int) : ∀ i, i < 1 → (w.alloc (.cells #[.int .i64 x] 3)).cell? ⟨w.heap.size, 0 + i, none⟩ = some (.int .i64 (iv [x] i)) := fun i hi => by
 obtain rfl : i = 0 := by omega
 exact cell_new1 w _ 3
theorem OwnL.keep {w0 w w' A : World} {v : Value} {L : List Int} (h : OwnL w0 w v L) (g : A.grownBy w' v.ownBlock) {bx j : Nat} {u : Value} (hb : w.heap.size ≤ bx) (hc : A.cell? ⟨bx, j, none⟩ = some u) : w'.cell? ⟨bx, j, none⟩ = some u :=
 g.cell hc (fun e => by
  have := (h.1.lt bx e.symm).2
  omega)
theorem iv_tk {L : List Int} {i k : Nat} (h : i < k) : iv (L.take k) i = iv L i := by
 unfold iv
 rw [List.getD_eq_getElem?_getD, List.getD_eq_getElem?_getD, List.getElem?_take_of_lt h]
end Go.Proofs.YtehdemcfeoiecaaGreatDoor
namespace Go.Proofs.YtehdemcfeoiecaaGreatDoor
open Go.RowKit Go.Firn Go.Firn.Tb RE
theorem run_cat_rows {w0 w : World} (t ty : TypeId) (ht : Tryz.prog.underlying t = some (.slice 81)) (v : Value) (raw : List Rw) (hown : OwnR w0 w v raw) (a : Option Addr) (n c : Nat) (X : List Rw) (hX : RdR w a n c X) (hk : raw.length + n ≤ 1000000) :
  ∃ v' w', (Builtin.append_ #[t, t] ty #[v, .slice a n c]).run Tryz.prog w = .ok v' w' ∧ OwnR w0 w' v' (raw ++ X) ∧ w.grownBy w' v.ownBlock := by
 obtain ⟨i0, hi, hz0, hz1, hz2⟩ := info_row
 obtain ⟨hn, hnc, hcm, hnone, hcells⟩ := hX
 cases a with
 | none =>
  have hc0 := hnone rfl
  subst hc0
  obtain rfl : n = 0 := by omega
  obtain rfl : X = [] := List.length_eq_zero_iff.1 hn.symm
  have := run_append_owned_none (P := Tryz.prog) w w0.heap.size t ty 81 i0 3 ht hi v raw.length (pkr raw) hown.1
  exact ⟨v, w, this, by rw [List.append_nil]; exact hown, World.grownBy.refl _ _⟩
 | some ad =>
  obtain ⟨v', w', hr, h1, h2, _⟩ := run_append_own (P := Tryz.prog) w w0.heap.size t ty 81 i0 _ 3 56 ht hi hz0 hz1 hz2 rfl (by decide) v raw.length (pkr raw) hown.1 ad n c (pkr X) (by rw [pkr_length, hn])
   (fun j u hu => by
    have hj : j < n * 3 := by
     rcases Nat.lt_or_ge j (n * 3) with h | h
     ·exact h
     rw [List.getElem?_eq_none (by rw [pkr_length, ← hn]; exact h)] at hu; cases hu
    rcases hcells with h0 | ⟨b, o, e, hc⟩
    ·omega
    cases e
    rw [add_flat rfl]
    obtain ⟨q, hget⟩ : ∃ q, X[j / 3]? = some q := ⟨_, List.getElem?_eq_getElem (show j / 3 < X.length by omega)⟩
    obtain ⟨p0, p1, p2⟩ := pkr_at X (j / 3) _ hget
    obtain ⟨k0, k1, k2⟩ := hc (j / 3) _ hget
    rcases (by omega : j % 3 = 0 ∨ j % 3 = 1 ∨ j % 3 = 2) with h | h | h
    ·have ej : j = j / 3 * 3 := by omega
     rw [ej, p0] at hu
     cases hu
     rw [show o + j = o + j / 3 * 3 by omega]
     exact k0
    ·have ej : j = j / 3 * 3 + 1 := by omega
     rw [ej, p1] at hu
     cases hu
     rw [show o + j = o + j / 3 * 3 + 1 by omega]
     exact k1
    have ej : j = j / 3 * 3 + 2 := by omega
    rw [ej, p2] at hu
    cases hu
    rw [show o + j = o + j / 3 * 3 + 2 by omega]
    exact k2)
   (fun u hu => by
    unfold pkr at hu
    rw [List.mem_flatMap] at hu
    obtain ⟨m, _, hm⟩ := hu
    simp at hm
    rcases hm with rfl | rfl | rfl <;> rfl)
   (by unfold maxLen; omega) (by omega) hown.2.size
  rw [← pkr_append] at h1
  exact ⟨v', w', hr, ⟨by rw [List.length_append, ← hn]; exact h1, hown.2.grown h2 fun k hk => (hown.1.lt k hk).1⟩, h2⟩
section
variable {ops : Array Oper} {rest : List Oper} {o : Oper} {a : Act} {Q : Exit → Act → World → Prop}
theorem wpList_cat_rows (hgd : o.guard = none) (s x : Operand) (t : TypeId)
  (ho : o.op = .call { callee := .builtin .append, args := #[s, x], argTypes := #[t, t] }) (ht : Tryz.prog.underlying t = some (.slice 81))
  {w0 w : World} (v : Value) (raw : List Rw) (hs : a.eval s = v) (hown : OwnR w0 w v raw)
  (ad : Option Addr) (n c : Nat) (X : List Rw) (hx : a.eval x = .slice ad n c) (hX : RdR w ad n c X) (hk : raw.length + n ≤ 1000000)
  (h : ∀ v' w', OwnR w0 w' v' (raw ++ X) → w.grownBy w' v.ownBlock → wpList Tryz.prog ops Q rest (a.put o.dst v') w') : wpList Tryz.prog ops Q (o :: rest) a w :=
 wpList_plain hgd fun _ hK => by
  obtain ⟨v', w', hr, h1, h2⟩ := run_cat_rows t o.type ht v raw hown ad n c X hX hk
  unfold Oper.wp execOp
  simp only [ho, resolve, invoke, builtin, Sem.run_bind, Sem.run_pure, Result.andThen_ok, List.map_toArray, List.map_cons, List.map_nil, hs, hx, hr]
  exact hK _ _ (h v' w' h1 h2)
end
theorem OwnR.base {w0 w1 w : World} {v : Value} {raw : List Rw} (h : OwnR w1 w v raw) (g : Gr w0 w1) : OwnR w0 w v raw := by
 obtain ⟨⟨hl, hv⟩, g2⟩ := h
 refine ⟨⟨hl, ?_⟩, g.trans g2⟩
 rcases hv with h | ⟨b, cap, cur, e, hb, r⟩
 ·exact .inl h
 exact .inr ⟨b, cap, cur, e, Nat.le_trans g.size hb, r⟩
theorem OwnR.lit0 (w : World) : OwnR w (w.alloc (.cells #[] 81)) (.slice (some ⟨w.heap.size, 0, none⟩) 0 0) [] :=
 ⟨World.ownsRow_lit w #[] 0 (Nat.le_refl _) (by unfold maxLen; omega) rfl, (Gr.refl w).alloc _⟩
theorem pkr_set : ∀ (raw : List Rw) (i : Nat) (x : Rw) (y : Int), raw[i]? = some x → (pkr raw).set (i * 3 + 2) (.int .i64 y) = pkr (raw.set i { x with y := y })
 | [], i, x, y, h => by simp at h
 | z :: r, 0, x, y, h => by
  simp at h
  subst h
  simp [pkr]
 | z :: r, i + 1, x, y, h => by
  have ih := pkr_set r i x y (by simpa using h)
  have e : pkr (z :: r) = [.slice z.a z.n z.c, .slice z.fa z.fn z.fc, .int .i64 z.y] ++ pkr r := rfl
  have e2 : pkr ((z :: r).set (i + 1) { x with y := y }) = [.slice z.a z.n z.c, .slice z.fa z.fn z.fc, .int .i64 z.y] ++ pkr (r.set i { x with y := y }) := rfl
  rw [e, e2, ← ih, show (i + 1) * 3 + 2 = (i * 3 + 2) + 1 + 1 + 1 by omega]
  rfl
theorem OwnR.setY {w0 w : World} {g c i : Nat} {raw : List Rw} (h : OwnR w0 w (.slice (some ⟨g, 0, none⟩) raw.length c) raw) {x : Rw} (hx : raw[i]? = some x) (y : Int) :
  OwnR w0 (w.setCell ⟨g, i * 3 + 2, none⟩ (.int .i64 y)) (.slice (some ⟨g, 0, none⟩) raw.length c) (raw.set i { x with y := y }) ∧ w.grownBy (w.setCell ⟨g, i * 3 + 2, none⟩ (.int .i64 y)) (some g) := by
 obtain ⟨h1, h2⟩ := h.1.stored (i * 3 + 2) (.int .i64 y)
 rw [pkr_set raw i x y hx] at h1
 refine ⟨⟨by rw [List.length_set]; exact h1, h.2.grown h2 fun k hk => ?_⟩, h2⟩
 cases hk
 exact (h.1.lt g rfl).1
theorem Dat.upd {w0 w : World} {raw : List Rw} {L : Tbl (SL × Int)} (h : Dat w0 w raw L) {i : Nat} {x : Rw} {r : List Int × (SL × Int)} (hx : raw[i]? = some x) (hr : L[i]? = some r) {x' : Rw} {d : SL × Int} (ha : x'.a = x.a ∧ x'.n = x.n ∧ x'.c = x.c) (hd : Rep w0 w x' d) : Dat w0 w (raw.set i x') (L.set i (r.1, d)) := by
 refine ⟨by rw [List.length_set, List.length_set]; exact h.1, fun j z q hz hq => ?_⟩
 rw [List.getElem?_set] at hz hq
 by_cases hij : i = j
 ·subst hij
  rw [if_pos rfl] at hz hq
  obtain ⟨hl, _⟩ := List.getElem?_eq_some_iff.1 hx
  obtain ⟨hl2, _⟩ := List.getElem?_eq_some_iff.1 hr
  rw [if_pos hl] at hz
  rw [if_pos hl2] at hq
  cases hz
  cases hq
  obtain ⟨e1, e2, _⟩ := h.2 i x r hx hr
  obtain ⟨a1, a2, a3⟩ := ha
  rw [a1, a2, a3]
  exact ⟨e1, e2, hd⟩
 rw [if_neg hij] at hz hq
 exact h.2 j z q hz hq
end Go.Proofs.YtehdemcfeoiecaaGreatDoor
