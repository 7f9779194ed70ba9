/- DERIVED: THE SHELF's CONTRACTS AT THIS DUMP, IN PLAIN WORDS (tools/lay-plain.mjs out of 'YtohcnicadbpbbaaGreatDoorShelf.lean', which tools/lay-shelf.mjs wrote): THE SAME DECLARATIONS UNDER THE SAME NAMES: 'import', 'namespace', 'open', 'def', 'theorem' AND NOTHING ELSE: no command of the shelf's: FOR A HAND-IN. Each laying: the table of numbers ('.._ren') and one theorem, a field a fact of the dump's own or the kernel's comparison; each contract: ONE APPLICATION. Contracts of chapter 7: slices.Sorted at the first numbers of a row, and the cut of k. -/
import Derived.Shelf.SortM.Plain
import Derived.Shelf.SortM.SortNone
import Derived.Ground.SlgmProg
import Derived.Test.YtohcnicadbpbbaaGreatDoorProg
import Derived.Test.YtohcnicadbpbbaaGreatDoorMG
import Derived.Test.YtohcnicadbpbbaaGreatDoorMF
import Derived.Test.YtohcnicadbpbbaaGreatDoorMD
namespace Go.Proofs
open Go.Shelf
def Tryz.sort5_ren : Go.Shelf.Ren := ⟨fun | 5 => 56 | 8 => 76 | 7 => 75 | 19 => 94 | 20 => 95 | 10 => 85 | 11 => 86 | 12 => 87 | 13 => 88 | 14 => 89 | 15 => 90 | 16 => 91 | 17 => 92 | 18 => 93 | 30 => 101 | 31 => 102 | 32 => 103 | 33 => 104 | 34 => 105 | 35 => 83 | 40 => 115 | n => n, fun | 23 => 22 | 25 => 3 | 3 => 3 | 32 => 90 | 22 => 22 | 0 => 0 | 44 => 105 | 46 => 107 | 4 => 4 | 36 => 97 | 35 => 96 | 41 => 102 | 5 => 5 | 9 => 9 | 53 => 111 | 57 => 115 | 63 => 124 | 64 => 125 | n => n, fun | n => n⟩
theorem Tryz.sort5 : Go.Proofs.SlLaysM.n5 Tryz.prog Tryz.sort5_ren := {
  mixed := by kernel_rfl
  f5 := ⟨Tryz.f56.name, by decide, Tryz.func56.trans (congrArg some (by kernel_rfl))⟩
  f7 := ⟨Tryz.f75.name, by decide, Tryz.func75.trans (congrArg some (by kernel_rfl))⟩
  f8 := Tryz.func76.trans (congrArg some (by kernel_rfl))
  f10 := ⟨Tryz.f85.name, by decide, Tryz.func85.trans (congrArg some (by kernel_rfl))⟩
  f11 := ⟨Tryz.f86.name, by decide, Tryz.func86.trans (congrArg some (by kernel_rfl))⟩
  f12 := ⟨Tryz.f87.name, by decide, Tryz.func87.trans (congrArg some (by kernel_rfl))⟩
  f13 := ⟨Tryz.f88.name, by decide, Tryz.func88.trans (congrArg some (by kernel_rfl))⟩
  f14 := ⟨Tryz.f89.name, by decide, Tryz.func89.trans (congrArg some (by kernel_rfl))⟩
  f15 := ⟨Tryz.f90.name, by decide, Tryz.func90.trans (congrArg some (by kernel_rfl))⟩
  f16 := ⟨Tryz.f91.name, by decide, Tryz.func91.trans (congrArg some (by kernel_rfl))⟩
  f17 := ⟨Tryz.f92.name, by decide, Tryz.func92.trans (congrArg some (by kernel_rfl))⟩
  f18 := ⟨Tryz.f93.name, by decide, Tryz.func93.trans (congrArg some (by kernel_rfl))⟩
  f19 := Tryz.func94.trans (congrArg some (by kernel_rfl))
  f20 := Tryz.func95.trans (congrArg some (by kernel_rfl))
  f30 := ⟨Tryz.f101.name, by decide, Tryz.func101.trans (congrArg some (by kernel_rfl))⟩
  f31 := Tryz.func102.trans (congrArg some (by kernel_rfl))
  f32 := Tryz.func103.trans (congrArg some (by kernel_rfl))
  f33 := ⟨Tryz.f104.name, by decide, Tryz.func104.trans (congrArg some (by kernel_rfl))⟩
  f34 := ⟨Tryz.f105.name, by decide, Tryz.func105.trans (congrArg some (by kernel_rfl))⟩
  f35 := ⟨Tryz.f83.name, by decide, Tryz.func83.trans (congrArg some (by kernel_rfl))⟩
  f40 := ⟨Tryz.f115.name, by decide, Tryz.func115.trans (congrArg some (by kernel_rfl))⟩
  t0 := Tryz.underlying0
  a0 := Tryz.isAgg0
  z0 := Tryz.sizeOf0
  v0 := Tryz.zeroValue0
  t3 := Tryz.underlying3
  a3 := Tryz.isAgg3
  z3 := Tryz.sizeOf3
  v3 := Tryz.zeroValue3
  t4 := Tryz.underlying4
  a4 := Tryz.isAgg4
  z4 := Tryz.sizeOf4
  v4 := Tryz.zeroValue4
  t5 := Tryz.underlying5
  a5 := Tryz.isAgg5
  z5 := Tryz.sizeOf5
  v5 := Tryz.zeroValue5
  t9 := Tryz.underlying9
  a9 := Tryz.isAgg9
  z9 := Tryz.sizeOf9
  v9 := Tryz.zeroValue9
  t22 := Tryz.underlying22
  a22 := Tryz.isAgg22
  z22 := Tryz.sizeOf22
  v22 := Tryz.zeroValue22
  t23 := Tryz.underlying22
  a23 := Tryz.isAgg22
  z23 := Tryz.sizeOf22
  v23 := Tryz.zeroValue22
  t25 := Tryz.underlying3
  a25 := Tryz.isAgg3
  z25 := Tryz.sizeOf3
  v25 := Tryz.zeroValue3
  t32 := Tryz.underlying90
  a32 := Tryz.isAgg90
  z32 := Tryz.sizeOf90
  v32 := Tryz.zeroValue90
  t35 := Tryz.underlying96
  a35 := Tryz.isAgg96
  z35 := Tryz.sizeOf96
  v35 := Tryz.zeroValue96
  t36 := Tryz.underlying97
  a36 := Tryz.isAgg97
  z36 := Tryz.sizeOf97
  v36 := Tryz.zeroValue97
  t41 := Tryz.underlying102
  a41 := Tryz.isAgg102
  z41 := Tryz.sizeOf102
  v41 := Tryz.zeroValue102
  t44 := Tryz.underlying105
  a44 := Tryz.isAgg105
  z44 := Tryz.sizeOf105
  v44 := Tryz.zeroValue105
  t46 := Tryz.underlying107
  a46 := Tryz.isAgg107
  z46 := Tryz.sizeOf107
  v46 := Tryz.zeroValue107
  t53 := Tryz.underlying111
  a53 := Tryz.isAgg111
  z53 := Tryz.sizeOf111
  v53 := Tryz.zeroValue111
  t57 := Tryz.underlying115
  a57 := Tryz.isAgg115
  z57 := Tryz.sizeOf115
  v57 := Tryz.zeroValue115
  t63 := Tryz.underlying124
  a63 := Tryz.isAgg124
  z63 := Tryz.sizeOf124
  v63 := Tryz.zeroValue124
  t64 := Tryz.underlying125
  a64 := Tryz.isAgg125
  z64 := Tryz.sizeOf125
  v64 := Tryz.zeroValue125 }
end Go.Proofs

namespace Go.Proofs.YtohcnicadbpbbaaGreatDoor
open Go.RowKit Go.Firn Go.Sort

theorem Collect_any (bs n c : Nat) (av : Option Addr) (X : Nat → Int) (w : World) (hn : n ≤ 1000) (hbs : w.cell? ⟨bs, 0, none⟩ = some (.slice av n c)) (hr : RdI w av n X) :
    Calls Tryz.prog 55 #[.func (.func 57) #[] #[.pointer (some ⟨bs, 0, none⟩)]] w fun e w' => ∃ v, e = .returned v ∧ OwnI w 3 w' v n X := by
  have C := Lib.hid (AppendSeq_any bs n c av X w hn hbs hr)
  clear hbs hr
  go_enter Tryz.func55, Tryz.ntmps55
  go_wp2_with (go_at_call 74; (with_reducible refine C.out.mono ?_); rintro e w1 ⟨v, rfl, h⟩)
  go_ret
  exact ⟨v, rfl, h⟩
/-- The first numbers, sorted. -/
def srI (X : Nat → Int) (n : Nat) : List Int := (lsI X n).mergeSort fun x y => decide (x ≤ y)
theorem srI_len (X : Nat → Int) (n : Nat) : (srI X n).length = n := by unfold srI; rw [List.length_mergeSort, lsI_len]

theorem Sort_any (w0 w : World) (n : Nat) (v : Value) (X : Nat → Int) (hn : n ≤ 1000) (h : OwnI w0 3 w v n X) :
    Calls Tryz.prog 56 #[v] w fun e w' => e = .returned (.tuple #[]) ∧ ∃ a c, v = .slice a n c ∧ n ≤ c ∧ c ≤ maxLen ∧ RdI w' a n (fun i => (srI X n).getD i 0) ∧ Gr w0 w' := by
  rcases Nat.eq_zero_or_pos n with rfl | hp
  · obtain ⟨a, c, rfl, h1, h2, h3⟩ := h.rd
    have hc : Calls Tryz.prog 56 #[.slice a 0 c] w _ := AnyM.slices_Sort_int_none Tryz.sort5 a c w
    refine hc.mono fun e w' ⟨e1, e2⟩ => ⟨e1, a, c, rfl, h1, h2, .inl rfl, ?_⟩
    rw [e2]; exact h.2
  · obtain ⟨b, c, rfl, h1, h2, h3, h4⟩ := rowI_of_owns h.1 hp
    have hl := lsI_len X n
    have hH : Holds (Value.int .i64) w b 0 (lsI X n).toArray := fun j hj => by
      have hj' : j < n := by simpa [hl] using hj
      rw [Nat.zero_add]
      refine ⟨?_, (h4 j hj').2⟩
      rw [(h4 j hj').1]
      simp [lsI, hj']
    have hblk : b < w.heap.size := World.block_lt_of_cell? w _ (h4 0 hp).1
    have hc : Calls Tryz.prog 56 #[.slice (some ⟨b, 0, none⟩) (lsI X n).length c] w _ := AnyM.slices_Sort_int Tryz.sort5 b 0 c (lsI X n) w hH hblk (by omega)
    rw [hl] at hc
    refine hc.mono fun e w' ⟨e1, q, os, e2⟩ => ?_
    have hs : (srI X n).toArray.size = (lsI X n).toArray.size := by simp [srI_len, hl]
    have H2 := holds_putRow (Value.int .i64) (Sort.ahead w q) b 0 _ _ (holds_ahead (Value.int .i64) w q b 0 _ hH) hs
    have G := grownBy_sortedI (w := w) (g := b) (n := q) (os := os) (srI X n).toArray
    have e2 : w' = grow (putRow (Value.int .i64) (Sort.ahead w q) b 0 (srI X n).toArray) os := e2
    rw [← e2] at G
    refine ⟨e1, _, c, rfl, h1, h2, .inr ⟨b, 0, rfl, fun i hi => ?_⟩, h.2.grown G (fun k hk => by cases hk; exact h3)⟩
    have k := H2 i (by simp [srI_len, hi])
    have hb2 : b < (putRow (Value.int .i64) (Sort.ahead w q) b 0 (srI X n).toArray).heap.size := World.block_lt_of_cell? _ _ k.1
    rw [e2, cell?_grow _ _ _ hb2, k.1]
    have hi' : i < (srI X n).length := by rw [srI_len]; exact hi
    simp [hi']

theorem Values_any (a : Option Addr) (n c : Nat) (w : World) :
    Calls Tryz.prog 34 #[.slice a n c] w fun e w' => e = .returned (.func (.func 57) #[] #[.pointer (some ⟨w.heap.size, 0, none⟩)]) ∧ w' = w.alloc (.cells #[.slice a n c] 22) := by
  have hmf : ∀ (fn : Fn) (first cap : Array Value) (w : World), (Instr.makeFunc fn first cap).run Tryz.prog w = .ok (.func fn first cap) w := fun _ _ _ _ => rfl
  go_enter Tryz.func34, Tryz.ntmps34
  go_wp2_with fail
  go_ret
  exact ⟨rfl, rfl⟩

set_option maxHeartbeats 1000000 in
theorem Sorted_any (bs n c : Nat) (av : Option Addr) (X : Nat → Int) (w : World) (hn : n ≤ 1000) (hbs : w.cell? ⟨bs, 0, none⟩ = some (.slice av n c)) (hr : RdI w av n X) :
    Calls Tryz.prog 33 #[.func (.func 57) #[] #[.pointer (some ⟨bs, 0, none⟩)]] w (RetI1 n (fun i => (srI X n).getD i 0) w) := by
  have C := Lib.hid (Collect_any bs n c av X w hn hbs hr)
  have CS := Lib.hid (fun w1 v (h : OwnI w 3 w1 v n X) => Sort_any w w1 n v X hn h)
  clear hbs hr
  go_enter Tryz.func33, Tryz.ntmps33
  go_wp2_with (first
    | (go_at_call 55; (with_reducible refine C.out.mono ?_); rintro e w1 ⟨v, rfl, h⟩; have H := Lib.hid h; clear h)
    | (go_at_call 56; (with_reducible refine (CS.out _ _ H.out).mono ?_); rintro e w2 ⟨rfl, h2⟩; have H2 := Lib.hid h2; clear h2))
  obtain ⟨a, c, rfl, h1, h2, h3, h4⟩ := H2.out
  go_ret
  exact ⟨a, c, rfl, h1, h2, h3, h4⟩

theorem cut_getD {L : List Nat} (i : Nat) : (L.map fun (a : Nat) => (a : Int)).getD i 0 = nf L i := by
  unfold nf
  rw [List.getD_eq_getElem?_getD, List.getElem?_map, List.getD_eq_getElem?_getD]
  cases L[i]? <;> rfl

set_option maxHeartbeats 4000000 in
set_option maxRecDepth 100000 in
theorem Cut_no (a a2 : Option Addr) (n c m d : Nat) (f g : Nat → Int) (k : Int) (w : World) (hn : n ≤ 1000) (hm : m ≤ 1000) (hr : RdI w a n f) (hs : RdI w a2 m g) (hv : vO n m f g = false) :
    Calls Tryz.prog 11 #[.agg #[.slice a n c, .slice a2 m d], .int .i64 k] w (RetIs 0 (fun _ => 0) 70 w) := by
  obtain ⟨W0, hW0⟩ : ∃ W0, (w.alloc (.cells #[.slice a n c, .slice a2 m d] 24)) = W0 := ⟨_, rfl⟩
  have G0 := Lib.hid (show Gr w W0 by rw [← hW0]; exact ((Gr.refl w).alloc _))
  have B1 := Lib.hid (show BoxO W0 w.heap.size (.slice a n c) (.slice a2 m d) by rw [← hW0]; exact BoxO.new rfl)
  have C := Lib.hid (fun w' (k : Gr w w') => newOdds_no a a2 n c m d f g w' hn hm (hr.gr k) (hs.gr k) hv)
  obtain ⟨p0, p1⟩ := B1.out
  clear hr hs hv
  go_enter Tryz.func11, Tryz.ntmps11
  go_wp2_with (go_at_call 29; (with_reducible refine (C.out _ G0.out).mono ?_); rintro e w1 ⟨rfl, g1⟩; have g1' := g1.alloc (.cells #[.slice none 0 0, .slice none 0 0, .int .i64 0, .int .i64 0] 57); have G1 := Lib.hid (G0.out.trans g1'); clear g1 g1')
  refine bodyPost_ret (v := .tuple #[.slice none 0 0, .int .i64 70]) (by simp [results, Tryz.results11, go_sem]) rfl ⟨none, 0, rfl, Nat.le_refl _, by unfold maxLen; omega, .inl rfl, ?_⟩
  repeat (first | exact G1.out | refine Gr.setCell ?_ (by simp; omega) _ | refine Gr.setCell ?_ (by simp) _ | refine Gr.alloc ?_ _ | refine Gr.drewN ?_ _ | refine Gr.drew ?_)

set_option maxHeartbeats 4000000 in
set_option maxRecDepth 100000 in
theorem Cut_bad (a a2 : Option Addr) (n c d : Nat) (f g : Nat → Int) (k : Int) (w : World) (hr : RdI w a n f) (hs : RdI w a2 n g) (hv : VO n n f g) (hk : btw 0 k n = false) :
    Calls Tryz.prog 11 #[.agg #[.slice a n c, .slice a2 n d], .int .i64 k] w (RetIs 0 (fun _ => 0) 2 w) := by
  have n10 := hv.noise.few
  obtain ⟨W0, hW0⟩ : ∃ W0, (w.alloc (.cells #[.slice a n c, .slice a2 n d] 24)) = W0 := ⟨_, rfl⟩
  have G0 := Lib.hid (show Gr w W0 by rw [← hW0]; exact ((Gr.refl w).alloc _))
  have B1 := Lib.hid (show BoxO W0 w.heap.size (.slice a n c) (.slice a2 n d) by rw [← hW0]; exact BoxO.new rfl)
  have C := Lib.hid (fun w' (k : Gr w w') => newOdds_ok a a2 n c n d f g w' (by omega) (by omega) (hr.gr k) (hs.gr k) (vO_iff.2 hv))
  have HK := Lib.hid hk
  have CB := Lib.hid (fun w' => show Calls Tryz.prog 32 #[.int .i64 0, .int .i64 k, .int .i64 n] w' fun e w'' => e = .returned (.bool false) ∧ w' = w'' from by rw [← HK.out]; exact between_any 0 k n w')
  obtain ⟨p0, p1⟩ := B1.out
  clear hr hs hv hk HK
  generalize sm f n = sf at *
  generalize sm g n = sg at *
  go_enter Tryz.func11, Tryz.ntmps11
  go_wp2_with (first
    | (go_at_call 29; (with_reducible refine (C.out _ G0.out).mono ?_); rintro e w1 ⟨rfl, g1⟩; have g1' := g1.alloc (.cells #[.slice a n c, .slice a2 n d, .int .i64 sf, .int .i64 sg] 57); obtain ⟨W1, hW1⟩ : ∃ W1, w1.alloc (.cells #[.slice a n c, .slice a2 n d, .int .i64 sf, .int .i64 sg] 57) = W1 := ⟨_, rfl⟩; rw [hW1] at g1'; have G1 := Lib.hid (G0.out.trans g1'); have B3 := Lib.hid (show Box4 W1 w1.heap.size (.slice a n c) (.slice a2 n d) (.int .i64 sf) (.int .i64 sg) by rw [← hW1]; exact Box4.new rfl); obtain ⟨r0, r1, r2, r3, _⟩ := B3.out; clear g1 g1')
    | (go_at_call 30; (with_reducible refine (many_any _ _ _ _ _ _ _).mono ?_); rintro e w2 ⟨rfl, g2⟩; have G2 := Lib.hid (G1.out.trans g2); clear g2)
    | (go_at_call 32; (with_reducible refine (CB.out _).mono ?_); rintro e w3 ⟨rfl, rfl⟩))
  refine bodyPost_ret (v := .tuple #[.slice none 0 0, .int .i64 2]) (by simp [results, Tryz.results11, go_sem]) rfl ⟨none, 0, rfl, Nat.le_refl _, by unfold maxLen; omega, .inl rfl, ?_⟩
  repeat (first | exact G2.out | refine Gr.setCell ?_ (by simp; omega) _ | refine Gr.setCell ?_ (by simp) _ | refine Gr.alloc ?_ _ | refine Gr.drewN ?_ _ | refine Gr.drew ?_)

set_option maxHeartbeats 4000000 in
set_option maxRecDepth 100000 in
theorem Cut_ok (a a2 : Option Addr) (n c d : Nat) (f g : Nat → Int) (k : Nat) (w : World) (hk : k ≤ n) (hr : RdI w a n f) (hs : RdI w a2 n g) (hf : ∀ i, 0 ≤ f i) (hg : ∀ i, 0 ≤ g i) (hv : VO n n f g) :
    Calls Tryz.prog 11 #[.agg #[.slice a n c, .slice a2 n d], .int .i64 k] w (RetIs k (nf (cN f g n k)) 0 w) := by
  have n10 := hv.noise.few
  have n1 := hv.noise.one
  obtain ⟨W0, hW0⟩ : ∃ W0, (w.alloc (.cells #[.slice a n c, .slice a2 n d] 24)) = W0 := ⟨_, rfl⟩
  have G0 := Lib.hid (show Gr w W0 by rw [← hW0]; exact ((Gr.refl w).alloc _))
  have B1 := Lib.hid (show BoxO W0 w.heap.size (.slice a n c) (.slice a2 n d) by rw [← hW0]; exact BoxO.new rfl)
  have C := Lib.hid (fun w' (k : Gr w w') => newOdds_ok a a2 n c n d f g w' (by omega) (by omega) (hr.gr k) (hs.gr k) (vO_iff.2 hv))
  have HK := Lib.hid (show btw 0 k n = true from btw_true.2 ⟨by omega, by omega⟩)
  have CB := Lib.hid (fun w' => show Calls Tryz.prog 32 #[.int .i64 0, .int .i64 k, .int .i64 n] w' fun e w'' => e = .returned (.bool true) ∧ w' = w'' from by rw [← HK.out]; exact between_any 0 k n w')
  have CR := Lib.hid (fun u v w' (k : Gr w w') => row_any a a2 n c d f g u v w' ⟨n1, n10⟩ (hr.gr k) (hs.gr k) hv.noise.ok hv.signal.ok)
  have E := Lib.hid (fun i => show (srI (fun p => (rowN f g n p : Int)) k).getD i 0 = nf (cN f g n k) i from by rw [← cut_getD, ← cN_sorted hf hg n1 hk]; rfl)
  have kn : (k : Int) ≤ (n : Int) := by omega
  obtain ⟨p0, p1⟩ := B1.out
  clear hr hs hv HK hf hg
  generalize sm f n = sf at *
  generalize sm g n = sg at *
  generalize (fun p => (rowN f g n p : Int)) = R at *
  generalize nf (cN f g n k) = F at *
  go_enter Tryz.func11, Tryz.ntmps11
  go_wp2_with (first
    | (go_at_call 29; (with_reducible refine (C.out _ G0.out).mono ?_); rintro e w1 ⟨rfl, g1⟩; have g1' := g1.alloc (.cells #[.slice a n c, .slice a2 n d, .int .i64 sf, .int .i64 sg] 57); obtain ⟨W1, hW1⟩ : ∃ W1, w1.alloc (.cells #[.slice a n c, .slice a2 n d, .int .i64 sf, .int .i64 sg] 57) = W1 := ⟨_, rfl⟩; rw [hW1] at g1'; have G1 := Lib.hid (G0.out.trans g1'); have B3 := Lib.hid (show Box4 W1 w1.heap.size (.slice a n c) (.slice a2 n d) (.int .i64 sf) (.int .i64 sg) by rw [← hW1]; exact Box4.new rfl); obtain ⟨r0, r1, r2, r3, _⟩ := B3.out; clear g1 g1')
    | (go_at_call 30; (with_reducible refine (many_any _ _ _ _ _ _ _).mono ?_); rintro e w2 ⟨rfl, g2⟩; have G2 := Lib.hid (G1.out.trans g2); have B3 := Lib.hid (B3.out.gr g2); clear r0 r1 r2 r3; obtain ⟨r0, r1, r2, r3, _⟩ := B3.out; clear g2)
    | (go_at_call 32; (with_reducible refine (CB.out _).mono ?_); rintro e w3 ⟨rfl, rfl⟩)
    | (go_at_call 35; ((with_reducible refine (CR.out _ _ _ G2.out).mono ?_); rintro e w4 ⟨ar, cr, rfl, l1, l2, rd, g4⟩; have G4 := Lib.hid (G2.out.trans g4); have l3 : (k : Int) ≤ (cr : Int) := (by omega); have R4 := Lib.hid rd; clear rd g4)))
  obtain ⟨b3, o3, e3, h3⟩ := R4.out.at (show 0 < n by omega)
  subst e3
  have RK := Lib.hid (show RdI w4 (some ⟨b3, o3, none⟩) k R from .inr ⟨b3, o3, rfl, fun i hi => h3 i (by omega)⟩)
  clear h3
  go_wp2_with (first
    | (go_at_call 34; (with_reducible refine (Values_any _ _ _ _).mono ?_); rintro e w5 ⟨rfl, rfl⟩)
    | (go_at_call 33; (with_reducible refine (Sorted_any w4.heap.size k cr (some ⟨b3, o3, none⟩) R _ (by omega) (cell_new1 _ _ _) (RK.out.gr ((Gr.refl _).alloc _))).mono ?_); rintro e w6 ⟨a6, c6, rfl, m1, m2, r6, g6⟩))
  refine bodyPost_ret (v := .tuple #[.slice a6 k c6, .int .i64 0]) (by simp [results, Tryz.results11, go_sem]) rfl ⟨a6, c6, rfl, m1, m2, r6.congr fun i _ => E.out i, (G4.out.alloc _).trans g6⟩

end Go.Proofs.YtohcnicadbpbbaaGreatDoor
