import Derived.Shelf.SlIter.Nil
import Derived.Shelf.SortM.Plain
import Derived.Shelf.SortM.SortNone
import Derived.Ground.GgzProg
import Derived.Ground.SlgmProg
import Derived.Shelf.SlMaps.Clone
import Derived.Ground.SlmcProg
import Derived.Shelf.SlSortCmp.Xorshift
import Derived.Ground.SlsfProg
import Derived.Maps.OwnSet
import Derived.Maps.OwnOps
import Derived.Maps.RangeWalk
import Derived.Test.YtehdemcfeoiecaaGreatDoorK02
set_option maxHeartbeats 64000000
set_option maxRecDepth 100000
/-
 DERIVED: THE SHELF's CONTRACTS AT THIS DUMP, IN PLAIN WORDS (tools/lay-plain.mjs out of 'YtehdemcfeoiecaaGreatDoorShelf.lean', which tools/lay-shelf.mjs wrote): THE SAME DECLARATIONS UNDER THE SAME NAMES: 'import', 'namespace', 'open', 'def', 'theorem' AND NOTHING ELSE: no command of the shelf's: FOR A HAND-IN. Each laying: the table of numbers ('.._ren') and one theorem, a field a fact of the dump's own or the kernel's comparison; each contract: ONE APPLICATION.
-/
namespace Go.Proofs
open Go.Shelf
def Tryz.keys88_ren : Go.Shelf.Ren := ⟨fun | 7 => 113 | 10 => 146 | n => n, fun | 23 => 113 | 26 => 9 | 3 => 3 | 28 => 133 | 0 => 0 | 27 => 132 | 33 => 90 | 4 => 4 | n => n, fun | n => n⟩
theorem Tryz.keys88 : Go.Proofs.SlLaysZ.n7 Tryz.prog Tryz.keys88_ren := {
 mixed := by kernel_rfl
 f7 := ⟨Tryz.f113.name, by decide, Tryz.func113.trans (congrArg some (by kernel_rfl))⟩
 f10 := ⟨Tryz.f146.name, by decide, Tryz.func146.trans (congrArg some (by kernel_rfl))⟩
 t0 := Tryz.underlying0
 a0 := Tryz.isAgg0
 z0 := Tryz.sizeOf0
 v0 := Tryz.zeroValue0
 t4 := Tryz.underlying4
 a4 := Tryz.isAgg4
 z4 := Tryz.sizeOf4
 v4 := Tryz.zeroValue4
 t23 := Tryz.underlying113
 a23 := Tryz.isAgg113
 z23 := Tryz.sizeOf113
 v23 := Tryz.zeroValue113
 t26 := Tryz.underlying9
 a26 := Tryz.isAgg9
 z26 := Tryz.sizeOf9
 v26 := Tryz.zeroValue9
 t27 := Tryz.underlying132
 a27 := Tryz.isAgg132
 z27 := Tryz.sizeOf132
 v27 := Tryz.zeroValue132
 t28 := Tryz.underlying133
 a28 := Tryz.isAgg133
 z28 := Tryz.sizeOf133
 v28 := Tryz.zeroValue133
 t33 := Tryz.underlying90
 a33 := Tryz.isAgg90
 z33 := Tryz.sizeOf90
 v33 := Tryz.zeroValue90 }
def Tryz.sorted87_ren : Go.Shelf.Ren := ⟨fun | 6 => 112 | 8 => 144 | 9 => 145 | 11 => 181 | 13 => 180 | 12 => 182 | 23 => 213 | 24 => 214 | 14 => 215 | 15 => 216 | 16 => 217 | 17 => 218 | 18 => 219 | 19 => 220 | 20 => 221 | 21 => 222 | 22 => 223 | 25 => 243 | 26 => 239 | 27 => 240 | 28 => 244 | 29 => 245 | 30 => 246 | 31 => 258 | n => n, fun | 26 => 9 | 28 => 133 | 24 => 155 | 0 => 0 | 3 => 3 | 37 => 219 | 48 => 245 | 50 => 247 | 4 => 4 | 40 => 239 | 39 => 238 | 45 => 193 | 5 => 5 | 9 => 9 | 51 => 272 | 55 => 276 | 57 => 289 | 58 => 290 | 33 => 90 | n => n, fun | n => n⟩
theorem Tryz.sorted87 : Go.Proofs.SlLaysZ.n6 Tryz.prog Tryz.sorted87_ren := {
 mixed := by kernel_rfl
 f6 := ⟨Tryz.f112.name, by decide, Tryz.func112.trans (congrArg some (by kernel_rfl))⟩
 f8 := ⟨Tryz.f144.name, by decide, Tryz.func144.trans (congrArg some (by kernel_rfl))⟩
 f11 := ⟨Tryz.f181.name, by decide, Tryz.func181.trans (congrArg some (by kernel_rfl))⟩
 t0 := Tryz.underlying0
 a0 := Tryz.isAgg0
 z0 := Tryz.sizeOf0
 v0 := Tryz.zeroValue0
 t24 := Tryz.underlying155
 a24 := Tryz.isAgg155
 z24 := Tryz.sizeOf155
 v24 := Tryz.zeroValue155
 t26 := Tryz.underlying9
 a26 := Tryz.isAgg9
 z26 := Tryz.sizeOf9
 v26 := Tryz.zeroValue9
 t28 := Tryz.underlying133
 a28 := Tryz.isAgg133
 z28 := Tryz.sizeOf133
 v28 := Tryz.zeroValue133
 i26 := by kernel_rfl }
def Tryz.sort121_ren : Go.Shelf.Ren := ⟨fun | 6 => 145 | 8 => 180 | 9 => 182 | 19 => 213 | 20 => 214 | 21 => 215 | 22 => 216 | 23 => 217 | 24 => 218 | 25 => 219 | 26 => 220 | 27 => 221 | 28 => 222 | 29 => 223 | 36 => 243 | 31 => 239 | 32 => 240 | 37 => 244 | 38 => 245 | 39 => 246 | 41 => 258 | n => n, fun | 27 => 155 | 29 => 9 | 3 => 3 | 32 => 219 | 26 => 155 | 0 => 0 | 44 => 245 | 46 => 247 | 4 => 4 | 36 => 239 | 35 => 238 | 41 => 193 | 5 => 5 | 9 => 9 | 53 => 272 | 57 => 276 | 63 => 289 | 64 => 290 | n => n, fun | n => n⟩
theorem Tryz.sort121 : Go.Proofs.SlLaysM.n6 Tryz.prog Tryz.sort121_ren := {
 mixed := by kernel_rfl
 f6 := ⟨Tryz.f145.name, by decide, Tryz.func145.trans (congrArg some (by kernel_rfl))⟩
 f8 := Tryz.func180.trans (congrArg some (by kernel_rfl))
 f9 := ⟨Tryz.f182.name, by decide, Tryz.func182.trans (congrArg some (by kernel_rfl))⟩
 f19 := Tryz.func213.trans (congrArg some (by kernel_rfl))
 f20 := Tryz.func214.trans (congrArg some (by kernel_rfl))
 f21 := ⟨Tryz.f215.name, by decide, Tryz.func215.trans (congrArg some (by kernel_rfl))⟩
 f22 := ⟨Tryz.f216.name, by decide, Tryz.func216.trans (congrArg some (by kernel_rfl))⟩
 f23 := ⟨Tryz.f217.name, by decide, Tryz.func217.trans (congrArg some (by kernel_rfl))⟩
 f24 := ⟨Tryz.f218.name, by decide, Tryz.func218.trans (congrArg some (by kernel_rfl))⟩
 f25 := ⟨Tryz.f219.name, by decide, Tryz.func219.trans (congrArg some (by kernel_rfl))⟩
 f26 := ⟨Tryz.f220.name, by decide, Tryz.func220.trans (congrArg some (by kernel_rfl))⟩
 f27 := ⟨Tryz.f221.name, by decide, Tryz.func221.trans (congrArg some (by kernel_rfl))⟩
 f28 := ⟨Tryz.f222.name, by decide, Tryz.func222.trans (congrArg some (by kernel_rfl))⟩
 f29 := ⟨Tryz.f223.name, by decide, Tryz.func223.trans (congrArg some (by kernel_rfl))⟩
 f31 := Tryz.func239.trans (congrArg some (by kernel_rfl))
 f32 := Tryz.func240.trans (congrArg some (by kernel_rfl))
 f36 := ⟨Tryz.f243.name, by decide, Tryz.func243.trans (congrArg some (by kernel_rfl))⟩
 f37 := ⟨Tryz.f244.name, by decide, Tryz.func244.trans (congrArg some (by kernel_rfl))⟩
 f38 := ⟨Tryz.f245.name, by decide, Tryz.func245.trans (congrArg some (by kernel_rfl))⟩
 f39 := ⟨Tryz.f246.name, by decide, Tryz.func246.trans (congrArg some (by kernel_rfl))⟩
 f41 := ⟨Tryz.f258.name, by decide, Tryz.func258.trans (congrArg some (by kernel_rfl))⟩
 t0 := Tryz.underlying0
 a0 := Tryz.isAgg0
 z0 := Tryz.sizeOf0
 v0 := Tryz.zeroValue0
 t3 := Tryz.underlying3
 a3 := Tryz.isAgg3
 z3 := Tryz.sizeOf3
 v3 := Tryz.zeroValue3
 t4 := Tryz.underlying4
 a4 := Tryz.isAgg4
 z4 := Tryz.sizeOf4
 v4 := Tryz.zeroValue4
 t5 := Tryz.underlying5
 a5 := Tryz.isAgg5
 z5 := Tryz.sizeOf5
 v5 := Tryz.zeroValue5
 t9 := Tryz.underlying9
 a9 := Tryz.isAgg9
 z9 := Tryz.sizeOf9
 v9 := Tryz.zeroValue9
 t26 := Tryz.underlying155
 a26 := Tryz.isAgg155
 z26 := Tryz.sizeOf155
 v26 := Tryz.zeroValue155
 t27 := Tryz.underlying155
 a27 := Tryz.isAgg155
 z27 := Tryz.sizeOf155
 v27 := Tryz.zeroValue155
 t29 := Tryz.underlying9
 a29 := Tryz.isAgg9
 z29 := Tryz.sizeOf9
 v29 := Tryz.zeroValue9
 t32 := Tryz.underlying219
 a32 := Tryz.isAgg219
 z32 := Tryz.sizeOf219
 v32 := Tryz.zeroValue219
 t35 := Tryz.underlying238
 a35 := Tryz.isAgg238
 z35 := Tryz.sizeOf238
 v35 := Tryz.zeroValue238
 t36 := Tryz.underlying239
 a36 := Tryz.isAgg239
 z36 := Tryz.sizeOf239
 v36 := Tryz.zeroValue239
 t41 := Tryz.underlying193
 a41 := Tryz.isAgg193
 z41 := Tryz.sizeOf193
 v41 := Tryz.zeroValue193
 t44 := Tryz.underlying245
 a44 := Tryz.isAgg245
 z44 := Tryz.sizeOf245
 v44 := Tryz.zeroValue245
 t46 := Tryz.underlying247
 a46 := Tryz.isAgg247
 z46 := Tryz.sizeOf247
 v46 := Tryz.zeroValue247
 t53 := Tryz.underlying272
 a53 := Tryz.isAgg272
 z53 := Tryz.sizeOf272
 v53 := Tryz.zeroValue272
 t57 := Tryz.underlying276
 a57 := Tryz.isAgg276
 z57 := Tryz.sizeOf276
 v57 := Tryz.zeroValue276
 t63 := Tryz.underlying289
 a63 := Tryz.isAgg289
 z63 := Tryz.sizeOf289
 v63 := Tryz.zeroValue289
 t64 := Tryz.underlying290
 a64 := Tryz.isAgg290
 z64 := Tryz.sizeOf290
 v64 := Tryz.zeroValue290 }
def Tryz.mclone62_ren : Go.Shelf.Ren := ⟨fun | 5 => 142 | 7 => 178 | n => n, fun | 23 => 113 | 25 => 9 | 3 => 3 | 4 => 4 | 20 => 20 | n => n, fun | n => n⟩
theorem Tryz.mclone62 : Go.Proofs.SlLaysW.n5 Tryz.prog Tryz.mclone62_ren := {
 mixed := by kernel_rfl
 f5 := ⟨Tryz.f142.name, by decide, Tryz.func142.trans (congrArg some (by kernel_rfl))⟩
 f7 := Tryz.func178.trans (congrArg some (by kernel_rfl))
 t4 := Tryz.underlying4
 a4 := Tryz.isAgg4
 z4 := Tryz.sizeOf4
 v4 := Tryz.zeroValue4
 t20 := Tryz.underlying20
 a20 := Tryz.isAgg20
 z20 := Tryz.sizeOf20
 v20 := Tryz.zeroValue20
 t23 := Tryz.underlying113
 a23 := Tryz.isAgg113
 z23 := Tryz.sizeOf113
 v23 := Tryz.zeroValue113 }
def Tryz.xnext128_ren : Go.Shelf.Ren := ⟨fun | 48 => 240 | n => n, fun | 76 => 289 | 55 => 247 | 0 => 0 | 66 => 272 | 39 => 219 | n => n, fun | n => n⟩
theorem Tryz.xnext128 : Go.Proofs.SlLaysF0.n48 Tryz.prog Tryz.xnext128_ren := {
 mixed := by kernel_rfl
 f48 := Tryz.func240.trans (congrArg some (by kernel_rfl))
 t0 := Tryz.underlying0
 a0 := Tryz.isAgg0
 z0 := Tryz.sizeOf0
 v0 := Tryz.zeroValue0
 t39 := Tryz.underlying219
 a39 := Tryz.isAgg219
 z39 := Tryz.sizeOf219
 v39 := Tryz.zeroValue219
 t55 := Tryz.underlying247
 a55 := Tryz.isAgg247
 z55 := Tryz.sizeOf247
 v55 := Tryz.zeroValue247
 t66 := Tryz.underlying272
 a66 := Tryz.isAgg272
 z66 := Tryz.sizeOf272
 v66 := Tryz.zeroValue272
 t76 := Tryz.underlying289
 a76 := Tryz.isAgg289
 z76 := Tryz.sizeOf289
 v76 := Tryz.zeroValue289 }
def Tryz.npow127_ren : Go.Shelf.Ren := ⟨fun | 47 => 239 | 15 => 180 | 28 => 213 | 29 => 214 | n => n, fun | 3 => 3 | 39 => 219 | 53 => 245 | 55 => 247 | 4 => 4 | 5 => 5 | 9 => 9 | n => n, fun | n => n⟩
theorem Tryz.npow127 : Go.Proofs.SlLaysF0.n47 Tryz.prog Tryz.npow127_ren := {
 mixed := by kernel_rfl
 f15 := Tryz.func180.trans (congrArg some (by kernel_rfl))
 f28 := Tryz.func213.trans (congrArg some (by kernel_rfl))
 f29 := Tryz.func214.trans (congrArg some (by kernel_rfl))
 f47 := Tryz.func239.trans (congrArg some (by kernel_rfl))
 t3 := Tryz.underlying3
 a3 := Tryz.isAgg3
 z3 := Tryz.sizeOf3
 v3 := Tryz.zeroValue3
 t4 := Tryz.underlying4
 a4 := Tryz.isAgg4
 z4 := Tryz.sizeOf4
 v4 := Tryz.zeroValue4
 t5 := Tryz.underlying5
 a5 := Tryz.isAgg5
 z5 := Tryz.sizeOf5
 v5 := Tryz.zeroValue5
 t9 := Tryz.underlying9
 a9 := Tryz.isAgg9
 z9 := Tryz.sizeOf9
 v9 := Tryz.zeroValue9
 t39 := Tryz.underlying219
 a39 := Tryz.isAgg219
 z39 := Tryz.sizeOf219
 v39 := Tryz.zeroValue219
 t53 := Tryz.underlying245
 a53 := Tryz.isAgg245
 z53 := Tryz.sizeOf245
 v53 := Tryz.zeroValue245
 t55 := Tryz.underlying247
 a55 := Tryz.isAgg247
 z55 := Tryz.sizeOf247
 v55 := Tryz.zeroValue247 }
def Tryz.blen74_ren : Go.Shelf.Ren := ⟨fun | 15 => 180 | 28 => 213 | 29 => 214 | n => n, fun | 39 => 219 | 3 => 3 | 53 => 245 | 55 => 247 | 4 => 4 | 5 => 5 | 9 => 9 | n => n, fun | n => n⟩
theorem Tryz.blen74 : Go.Proofs.SlLaysF0.n15 Tryz.prog Tryz.blen74_ren := {
 mixed := by kernel_rfl
 f15 := Tryz.func180.trans (congrArg some (by kernel_rfl))
 f28 := Tryz.func213.trans (congrArg some (by kernel_rfl))
 f29 := Tryz.func214.trans (congrArg some (by kernel_rfl))
 t3 := Tryz.underlying3
 a3 := Tryz.isAgg3
 z3 := Tryz.sizeOf3
 v3 := Tryz.zeroValue3
 t4 := Tryz.underlying4
 a4 := Tryz.isAgg4
 z4 := Tryz.sizeOf4
 v4 := Tryz.zeroValue4
 t5 := Tryz.underlying5
 a5 := Tryz.isAgg5
 z5 := Tryz.sizeOf5
 v5 := Tryz.zeroValue5
 t9 := Tryz.underlying9
 a9 := Tryz.isAgg9
 z9 := Tryz.sizeOf9
 v9 := Tryz.zeroValue9
 t39 := Tryz.underlying219
 a39 := Tryz.isAgg219
 z39 := Tryz.sizeOf219
 v39 := Tryz.zeroValue219
 t53 := Tryz.underlying245
 a53 := Tryz.isAgg245
 z53 := Tryz.sizeOf245
 v53 := Tryz.zeroValue245
 t55 := Tryz.underlying247
 a55 := Tryz.isAgg247
 z55 := Tryz.sizeOf247
 v55 := Tryz.zeroValue247 }
end Go.Proofs
namespace Go.Proofs.YtehdemcfeoiecaaGreatDoor
open Go.RowKit Go.Firn Go.Shelf Go.Maps Go.WideMaps
theorem law9 : Keyed Tryz.prog 9 := string_keyed Tryz.underlying9
theorem zero3 (w : World) : (zeroValue 3).run Tryz.prog w = .ok (.int .i64 0) w := by kernel_rfl
def OwL (w : World) (b n : Nat) (L : SL) : Prop := w.ownsMap (H := Unit) Tryz.prog 9 (plainElem (H := Unit) Tryz.prog 3) b n (mapD L)
theorem OwL.gr {w w' : World} {b n : Nat} {L : SL} (h : OwL w b n L) (g : Gr w w') : OwL w' b n L :=
 World.ownsMap.kept (row := none) h ⟨g.os, g.tape, g.output, Gr.size g, fun k hk _ => Below.block g k hk⟩ (by simp)
theorem OwL.wr {w w' : World} {b s n : Nat} {L : SL} (h : OwL w b n L) (g : Wr s w w') (hne : b ≠ s) : OwL w' b n L := World.ownsMap.kept h g (fun e => hne (Option.some.inj e))
theorem OwL.lt {w : World} {b n : Nat} {L : SL} (h : OwL w b n L) : b < w.heap.size := World.ownsMap.lt h
theorem OwL.le {w : World} {b n : Nat} {L : SL} (h : OwL w b n L) : L.length ≤ n := by
 have := World.ownsMap.size_le h
 rwa [mapD_size] at this
def RetLn (N : Nat) (L : SL) (w : World) (e : Ending) (w' : World) : Prop := ∃ b n, e = .returned (.map (some b)) ∧ n ≤ N ∧ OwL w' b n L ∧ Gr w w' ∧ w.heap.size ≤ b
def RetL (L : SL) (w : World) (e : Ending) (w' : World) : Prop := RetLn 900000 L w e w'
theorem key_len {s : ByteArray} (h : s.size ≤ 9223372036854775807) : s.size ≤ maxLen := by unfold maxLen; omega
theorem wf_of {x : Int} (h0 : 0 ≤ x) (h : x ≤ 9223372036854775807) : (Lit.int .i64 x).wf = true := WalkArith.wf_i64 (by omega)
theorem newSum_any (a : Option Addr) (n c : Nat) (f : Nat → ByteArray) (g : Nat → Int) (w : World) (hS : Srt (ofS f g n)) (hn : n ≤ 900000) (hz : ∀ i, i < n → (f i).size ≤ 9223372036854775807 ∧ 1 ≤ g i ∧ g i ≤ 9223372036854775807) (hr : RdS w a n f g) :
  Calls Tryz.prog 80 #[.slice a n c] w (RetLn n (ofS f g n) w) := by
 have HR := Lh hr
 have HZ := Lh hz
 have HS := Lh (fun k (hk : k < n) => show ∀ x ∈ ofS f g k, x.1 < (f k).data.toList from fun x hx => by
  obtain ⟨i, hi, rfl⟩ := ofS_mem.1 hx
  have := (List.pairwise_iff_getElem.1 hS) i k (by rw [ofS_length]; omega) (by rw [ofS_length]; exact hk) hi
  have e1 : (ofS f g n)[i]'(by rw [ofS_length]; omega) = ((f i).data.toList, g i) := by have := ofS_get (f := f) (g := g) (n := n) (i := i) (by omega); rw [List.getElem?_eq_getElem (by rw [ofS_length]; omega)] at this; simpa using this
  have e2 : (ofS f g n)[k]'(by rw [ofS_length]; exact hk) = ((f k).data.toList, g k) := by have := ofS_get (f := f) (g := g) (n := n) (i := k) hk; rw [List.getElem?_eq_getElem (by rw [ofS_length]; exact hk)] at this; simpa using this
  rw [e1, e2] at this
  exact this)
 have HT := Lh (fun k (hk : k ≤ n) => show Srt (ofS f g k) by
  have e : ofS f g k = (ofS f g n).take k := by
   unfold ofS
   rw [← List.map_take, List.take_range, Nat.min_eq_left hk]
  rw [e]
  exact hS.sublist (List.take_sublist _ _))
 have hmm := @run_makeMap Tryz.prog
 clear hr hz hS
 go_enter Tryz.func80, Tryz.ntmps80
 go_wp2
 go_loopw [9] (fun si wr => ∃ k : Nat, k ≤ n ∧ si = .int .i64 k ∧ Hid (OwL wr w.heap.size k (ofS f g k)) ∧ Hid (Gr w wr)) (fun si _ => n - (intOf si).toNat)
 case atStart => exact ⟨0, Nat.zero_le _, rfl, Lh (World.ownsMap_made _ _ _ _), Lh ((Gr.refl w).alloc _)⟩
 case round =>
  obtain ⟨k, hk, rfl, HO, HG⟩ := hrel
  by_cases hlt : k < n
  ·have i1 : (k : Int) < (n : Int) := by omega
   obtain ⟨b, o, rfl, hc⟩ := (HR.out.gr HG.out).at hlt
   obtain ⟨k0, k1⟩ := hc k hlt
   obtain ⟨z0, z1⟩ := box2 wr (f k) (g k) 58
   obtain ⟨y0, y1, y2⟩ := HZ.out k hlt
   have HO2 := Lh (HO.out.gr ((Gr.refl wr).alloc (.cells #[.string (f k), .int .i64 (g k)] 58)))
   have HG2 := Lh (HG.out.alloc (.cells #[.string (f k), .int .i64 (g k)] 58))
   have hkey := Lh (show keyOf Tryz.prog 9 (.string (f k)) = some (.string (f k).data.toList) from keyOf_string_mk Tryz.underlying9 (key_len y0))
   have HL := Lh (show (mapD (H := Unit) (ofS f g k)).put (.string (f k).data.toList) (.lit (.int .i64 (g k))) = mapD (ofS f g (k + 1)) by rw [mapD_put (HT.out k (by omega)), set_last (HS.out k hlt), ofS_succ])
   have hwf := Lh (wf_of (by omega) y2 : (Lit.int .i64 (g k)).wf = true)
   clear hc
   generalize f k = s at *
   generalize g k = mm at *
   obtain ⟨L2, hL2⟩ : ∃ L2, ofS f g (k + 1) = L2 := ⟨_, rfl⟩
   rw [hL2] at HL
   have HL2 := Lh hL2
   clear hL2
   generalize ofS f g k = L1 at *
   clear y0 y1 y2 HO HG
   go_wp2_with (first
    | (at_mapUpdate; refine wpList_mapUpdate_own _ rfl _ _ _ 113 rfl 9 3 law9 Tryz.underlying113 _ w.heap.size k _ rfl HO2.out (by unfold maxLen; omega) _ _ _ rfl rfl hkey.out _ [] (plainElem_int Tryz.underlying3 hwf.out) ?_; intro w1 hown1 hgrow1)
    | go_in)
   rw [HL.out] at hown1
   have R1 := Lh hown1
   have R2 := Lh (HG2.out.grown hgrow1 (fun j hj => by cases hj; exact Nat.le_refl _))
   clear hown1 hgrow1
   go_wp2
   go_roundw
   case rel => exact ⟨k + 1, hlt, by go_num, Lh (by rw [HL2.out]; exact R1.out), R2⟩
   case measure => simp [intOf]; omega
  obtain rfl : k = n := by omega
  have i1 : ¬ (k : Int) < (k : Int) := by omega
  go_wp2_with fail
  go_ret
  exact ⟨_, _, rfl, Nat.le_refl _, HO.out, HG.out, Nat.le_refl _⟩
theorem entry_of {L : SL} {left : Lit → Bool} {x : List UInt8} {c : Int} {kl : Lit} {yd : DataW Unit} {yp : List MemPlace} (hk : keyOf Tryz.prog 9 (Go.Proofs.encStr x) = some kl) (hl : left kl = true) (hv : plainElem (H := Unit) Tryz.prog 3 (Value.int .i64 c) = some (yd, yp)) (hat : ∀ zd, (mapD (H := Unit) L).atKey kl zd = yd) (hS : Srt L) :
  kl = .string x ∧ left (.string x) = true ∧ (x, c) ∈ L := by
 obtain ⟨x', ex, rfl, _⟩ := Maps.keyOf_str Tryz.underlying9 hk
 obtain rfl : x = x' := encStr_inj ex
 obtain ⟨n, hn, e⟩ := lft_mem hS hat
 obtain ⟨c', ec, e2, _⟩ := plainElem_int_inv Tryz.underlying3 hv
 obtain rfl : c = c' := by simpa using ec
 simp only [Prod.mk.injEq] at e2
 rw [e] at e2
 have : n = c := by simpa using e2.1
 subst this
 exact ⟨rfl, hl, hn⟩
theorem atL_bd {L : SL} (hp : Pos L) (k : Key) : 0 ≤ atL k L ∧ atL k L ≤ tot (fun _ => 1) L := by
 induction L with
 | nil => simp [atL, tot]
 | cons x r ih =>
  have h1 := hp x List.mem_cons_self
  have h2 := ih (fun y hy => hp y (List.mem_cons_of_mem _ hy))
  have h3 : 0 ≤ tot (fun _ => 1) r := Int.le_trans h2.1 h2.2
  unfold atL
  simp only [tot]
  split <;> omega
theorem tot_one_mem {L : SL} (hp : Pos L) {x : Key × Int} (hx : x ∈ L) : 1 ≤ x.2 ∧ x.2 ≤ tot (fun _ => 1) L := by
 induction L with
 | nil => cases hx
 | cons y r ih =>
  have h1 := hp y List.mem_cons_self
  have h3 : 0 ≤ tot (fun _ => 1) r := by
   have := atL_bd (L := r) (fun z hz => hp z (List.mem_cons_of_mem _ hz)) []
   omega
  simp only [tot]
  rcases List.mem_cons.1 hx with rfl | hx
  ·omega
  have := ih (fun z hz => hp z (List.mem_cons_of_mem _ hz)) hx
  omega
theorem lft_pos {L : SL} (hp : Pos L) (left : Lit → Bool) : Pos (lft left L) := fun x hx => hp x (List.mem_filter.1 hx).1
theorem tot_one_pos {L : SL} (hp : Pos L) : 0 ≤ tot (fun _ => 1) L := by
 have := atL_bd hp []
 omega
theorem plus_any (bs bt ns nt : Nat) (Ls Lt : SL) (w : World) (hs : OwL w bs ns Ls) (ht : OwL w bt nt Lt) (hns : ns + nt ≤ 900000) (ss : Srt Ls) (st : Srt Lt) (ps : Pos Ls) (pt : Pos Lt) (hT : tot (fun _ => 1) Ls + tot (fun _ => 1) Lt ≤ 4000000000000000000) :
  Calls Tryz.prog 108 #[.map (some bs), .map (some bt)] w (RetL (plusL Ls Lt) w) := by
 have C1 := Lh (AnyW.maps_Clone_owns (H := Unit) Tryz.mclone62 9 (plainElem (H := Unit) Tryz.prog 3) bs ns (mapD Ls) w hs)
 have HT := Lh ht
 have HA := Lh (And.intro ss (And.intro st (And.intro ps pt)))
 have HB := Lh hT
 obtain ⟨mc, hmc⟩ : ∃ mc, w.heap.size = mc := ⟨_, rfl⟩
 have HM := Lh (show w.heap.size = mc ∧ bt < mc from ⟨hmc, by have := ht.lt; omega⟩)
 clear hs ht ss st ps pt hT
 go_enter Tryz.func108, Tryz.ntmps108
 go_wp2_with (first
  | (go_at_call 142; refine C1.out.mono ?_; rintro e w1 ⟨rfl, h1, h2, h3⟩; have H1 := Lh (show OwL w1 mc ns Ls from HM.out.1 ▸ h1); have HT1 := Lh (HT.out.gr h3); have HG1 := Lh (show Gr w w1 from h3); clear h1 h2 h3)
  | (at_range; refine wpList_range_own _ rfl _ 113 rfl 9 3 law9 Tryz.underlying113 _ bt nt _ rfl HT1.out ?_; intro w0 hrg0 hg0 hs0; have HRg := Lh hrg0; have HG0 := Lh hg0; have HS0 := Lh hs0; clear hrg0 hg0 hs0)
  | go_in)
 go_frame
 obtain ⟨r, hr⟩ : ∃ r, w1.heap.size = r := ⟨_, rfl⟩
 rw [hr]
 replace HRg := Lh (hr ▸ HRg.out)
 have HR0 := Lh (show mc < r ∧ bt < mc by have := H1.out.lt; have := HM.out; omega)
 have HO0 := Lh (show OwL w0 mc ns Ls from World.ownsMap.kept H1.out HG0.out (by simp))
 have HGw := Lh (show Gr w w0 from HG1.out.grown HG0.out (fun k hk => by cases hk))
 have HM' := Lh HM.out.2
 have HI0 := Lh (show ∀ φ, tot φ Ls + tot φ (lft (Maps.has (mapD (H := Unit) Lt)) Lt) = tot φ Ls + tot φ Lt from fun φ => by rw [lft_all])
 have HC0 := Lh (show ns + Maps.size (mapD (H := Unit) Lt) ≤ 900000 by rw [mapD_size]; have := HT1.out.le; omega)
 have HW := Lh (show w.heap.size ≤ mc by omega)
 have HWr := Lh (show w.heap.size ≤ r by have := HR0.out; omega)
 clear hr hmc HM C1 HG0 HS0 H1 HT1 HG1 HT
 go_loopw [6, 7] (fun _ _ wr => ∃ (left : Lit → Bool) (cnt nn : Nat) (Lo : SL), Hid (wr.ranges (H := Unit) Tryz.prog 9 (plainElem (H := Unit) Tryz.prog 3) bt r nt (mapD Lt) left cnt) ∧ Hid (OwL wr mc nn Lo) ∧ Hid (nn + cnt ≤ 900000) ∧ Hid (Srt Lo ∧ Pos Lo) ∧ Hid (∀ φ, tot φ Lo + tot φ (lft left Lt) = tot φ Ls + tot φ Lt) ∧ Hid (Gr w wr))
  (fun _ _ wr => wr.rangeLeft bt r)
 case atStart => exact ⟨_, _, ns, Ls, HRg, HO0, HC0, Lh ⟨HA.out.1, HA.out.2.2.1⟩, HI0, HGw⟩
 case round =>
  clear HRg HO0 HC0 HI0 HGw
  obtain ⟨left, cnt, nn, Lo, HRg, HO, HC, HP, HI, HG⟩ := hrel
  go_wp2_with (first
   | (at_next; refine wpList_next_ranges _ rfl _ rfl 9 law9 (plainElem (H := Unit) Tryz.prog 3) Go.Proofs.encStr (Value.int .i64) (fun key kl hk => by obtain ⟨x, hx, _⟩ := Maps.keyOf_str Tryz.underlying9 hk; exact ⟨x, hx⟩) (fun v y hv => by obtain ⟨c, rfl, _⟩ := plainElem_int_inv Tryz.underlying3 hv; exact ⟨c, rfl⟩) bt r nt _ _ _ rfl HRg.out ?_ ?_)
   | go_in)
  ·intro _ hl0
   have HL := Lh (show Lo = plusL Ls Lt from uniq HP.out.1 HA.out.1.plus HP.out.2 (Pos.plus HA.out.2.2.2 HA.out.2.2.1) fun φ => by have := HI.out φ; rw [lft_none hl0, tot_plus] at *; simpa [tot] using this)
   clear hl0
   go_wp2
   go_ret
   exact ⟨mc, nn, rfl, by have := HC.out; omega, by rw [← HL.out]; exact HO.out, HG.out, HW.out⟩
  intro x c kl yd yp w2 cnt2 hkey hlk hv hat hrg2 hlt hg2 hs2 hen
  obtain ⟨rfl, hlx, hmem⟩ := entry_of hkey hlk hv hat HA.out.2.1
  have HRg2 := Lh hrg2
  have HLt := Lh hlt
  have HG2 := Lh (show Gr w w2 from HG.out.grown hg2 (fun k hk => by cases hk; exact HWr.out))
  have HO2 := Lh (show OwL w2 mc nn Lo from World.ownsMap.kept HO.out hg2 (by have := HR0.out; simp; omega))
  have HK := Lh hkey
  have HN := Lh (lft_step (n := c) · hlx HA.out.2.1 hmem)
  have HV := Lh (tot_one_mem HA.out.2.2.2 hmem)
  have HVo := Lh (show 0 ≤ atL x Lo ∧ atL x Lo + c ≤ tot (fun _ => 1) Ls + tot (fun _ => 1) Lt from by
   have h1 := atL_bd HP.out.2 x
   have h2 := HI.out (fun _ => 1)
   have h3 := HN.out (fun _ => 1)
   have h4 := tot_one_pos (lft_pos HA.out.2.2.2 (fun z => left z && !z.sameKey (.string x)))
   omega)
  have HP2 := Lh (show Srt (putL x c Lo) ∧ Pos (putL x c Lo) from ⟨HP.out.1.put, HP.out.2.put HV.out.1⟩)
  have HI2 := Lh (show ∀ φ, tot φ (putL x c Lo) + tot φ (lft (fun z => left z && !z.sameKey (.string x)) Lt) = tot φ Ls + tot φ Lt from fun φ => by rw [tot_put, ← HI.out φ, HN.out φ]; omega)
  have HQ := Lh (show ∀ v, (mapD (H := Unit) Lo).atKey (.string x) (.lit (.int .i64 0)) = .lit (.int .i64 v) → (0 ≤ v ∧ v + c ≤ 4000000000000000000) ∧ (mapD (H := Unit) Lo).put (.string x) (.lit (.int .i64 (v + c))) = mapD (putL x c Lo) from fun v hv => by
   rw [mapD_at] at hv
   obtain rfl : atL x Lo = v := by simpa using hv
   exact ⟨⟨HVo.out.1, by have := HVo.out; have := HB.out; omega⟩, by rw [mapD_put HP.out.1, set_at HP.out.1]⟩)
  have HC2 := Lh (show nn + 1 + cnt2 ≤ 900000 by have := HC.out; have := HLt.out; omega)
  have HOld := HRg
  have HCc := Lh HV.out.1
  clear hrg2 hlt hg2 hs2 hv hat hlk hkey hmem hlx HVo HP HI HN HO HG HC HRg HV
  obtain ⟨L2, hL2⟩ : ∃ L2, putL x c Lo = L2 := ⟨_, rfl⟩
  rw [hL2] at HP2 HI2 HQ
  clear hL2
  obtain ⟨sx0, hsx⟩ : ∃ sx0 : ByteArray, Go.Proofs.encStr x = .string sx0 := ⟨⟨x.toArray⟩, rfl⟩
  have HKx := Lh (show keyOf Tryz.prog 9 (.string sx0) = some (.string x) by rw [← hsx]; exact HK.out)
  rw [hsx] at hen
  rw [hsx]
  clear hsx HK
  have HN1 := Lh (show nn < maxLen by have := HC2.out; unfold maxLen; omega)
  have HWf := Lh (fun (v : Int) (h0 : 0 ≤ v) (h1 : v + c ≤ 4000000000000000000) => show (Lit.int .i64 (v + c)).wf = true from wf_of (by have := HCc.out; omega) (by omega))
  go_wp2_with (first
   | (at_lookup; refine wpList_lookup_own_int _ rfl _ _ 113 rfl 9 3 .i64 law9 Tryz.underlying113 Tryz.underlying3 (zero3 _) mc nn _ rfl HO2.out _ _ rfl HKx.out ?_; intro v hv hwv; have HV := Lh (HQ.out v hv); have e1 : IntKind.i64.wrap (v + c) = v + c := IntWalk.i64_in _ (by have := HV.out.1; have := HCc.out; omega); clear hv hwv)
   | (at_mapUpdate; refine wpList_mapUpdate_own _ rfl _ _ _ 113 rfl 9 3 law9 Tryz.underlying113 _ mc nn _ rfl HO2.out HN1.out _ _ _ rfl rfl HKx.out _ [] (plainElem_int Tryz.underlying3 (HWf.out v HV.out.1.1 HV.out.1.2)) ?_; intro w3 hown3 hgrow3; have HO3 := Lh (show OwL w3 mc (nn + 1) L2 by rw [HV.out.2] at hown3; exact hown3); have HG3 := Lh (HG2.out.grown hgrow3 (fun k hk => by cases hk; exact HW.out)); have HRg3 := Lh (HRg2.out.kept hgrow3 (by have := HR0.out; simp; omega) (by have := HR0.out; simp; omega)); clear hown3 hgrow3 e1)
   | go_in)
  go_roundw
  case rel => exact ⟨_, cnt2, HRg3, nn + 1, L2, HO3, HC2, HP2, HI2⟩
  case measure => rw [HRg3.out.left_eq, HOld.out.left_eq]; exact HLt.out
end Go.Proofs.YtehdemcfeoiecaaGreatDoor
namespace Go.Proofs
open Go.RowKit Go.Maps Go.Sort Go.Shelf
theorem Tryz.sorts87 (m : Nat) : AnyZ.SortsIn Tryz.prog Tryz.sorted87_ren Fence.wide m :=
 ⟨fun blk off cap ss W hH hblk hsz => callsIn_wide.2 (AnyM.slices_Sort_string Tryz.sort121 blk off cap ss W hH hblk hsz),
  fun p cap W => callsIn_wide.2 (AnyM.slices_Sort_string_none Tryz.sort121 p cap W)⟩
theorem Tryz.maps_Keys_88 (mb : Option Nat) (W : World) : CallsIn Fence.wide 5 Tryz.prog 113 #[.map mb] W fun e w' => e = .returned (.func (.func 146) #[] #[.pointer (some ⟨W.heap.size, 0, none⟩)]) ∧ w' = W.alloc (.cells #[.map mb] 113) :=
 AnyZ.keys_in Tryz.keys88 Fence.wide 5 trivial rfl mb W
theorem Tryz.slices_Sorted_keys_87_88 {H : Type} (b nn : Nat) (D0 : DataW H) (R : Value → Option (DataW H × List MemPlace)) (w : World) (hown : w.ownsMap Tryz.prog 9 R b nn D0) (hmax : Maps.size D0 ≤ maxLen) (hbytes : Maps.size D0 * 16 ≤ 140737488355328) :
  CallsIn Fence.wide 5 Tryz.prog 112 #[.func (.func 146) #[] #[.pointer (some ⟨w.heap.size, 0, none⟩)]] (w.alloc (.cells #[.map (some b)] 113)) fun e w' => ∃ (v : Value) (ss : List (List UInt8)), e = .returned v ∧ ss.Perm (strKeys D0) ∧
   w'.ownsRow (w.alloc (.cells #[.map (some b)] 113)).heap.size 9 1 v ss.length ((ss.mergeSort (fun x y => decide (x ≤ y))).map encStr) ∧ (v = .slice none 0 0 ↔ ss = []) ∧ Below (w.alloc (.cells #[.map (some b)] 113)).heap.size (w.alloc (.cells #[.map (some b)] 113)) w' := by
 have hbl := hown.lt
 have hseq : SeqGives Fence.wide 2 Tryz.prog 146 #[.pointer (some ⟨w.heap.size, 0, none⟩)] encStr (fun ss => ss.Perm (strKeys D0)) (Maps.size D0) (w.alloc (.cells #[.map (some b)] 113)) :=
  AnyZ.keys_gives (ρ := Tryz.keys88_ren) { Tryz.keys88 with } Fence.wide _ trivial rfl (by omega) w.heap.size b nn D0 _ (by simp) (by simp) (by
   obtain ⟨es, clock, hb, Ft, hs, hD⟩ := hown
   exact ⟨es, clock, (Below.heap_alloc _ _ b hbl).trans hb, Ft, hs, hD⟩)
 exact AnyZ.sorted_in Tryz.sorted87 Fence.wide 5 trivial trivial trivial trivial rfl (by omega) (Tryz.sorts87 _) (enters_of Tryz.func145 (by kernel_rfl) rfl) 146 #[.pointer (some ⟨w.heap.size, 0, none⟩)] trivial (enters_of Tryz.func146 (by kernel_rfl) rfl) _ _ hmax hbytes _ hseq
end Go.Proofs
namespace Go.Proofs.YtehdemcfeoiecaaGreatDoor
open Go.RowKit Go.Firn Go.Shelf Go.Maps Go.WideMaps
theorem info34 : (Tryz.prog.info? 58).map (fun i => (i.zero, i.size, i.bytes)) = some (some (.agg #[.string ⟨#[]⟩, .int .i64 0]), 2, 24) := by kernel_rfl
def RdT (w : World) (v : Value) (L : SL) : Prop := ∃ a c, v = .slice a L.length c ∧ (L.length = 0 ∨ ∃ b, a = some ⟨b, 0, none⟩ ∧ ∀ i, i < L.length → w.cell? ⟨b, i, none⟩ = some (.string (sx L i)))
theorem RdT.gr {w w' : World} {v : Value} {L : SL} (h : RdT w v L) (g : Gr w w') : RdT w' v L := by
 obtain ⟨a, c, h1, h2⟩ := h
 refine ⟨a, c, h1, ?_⟩
 rcases h2 with h2 | ⟨b, hb, h3⟩
 ·exact .inl h2
 exact .inr ⟨b, hb, fun i hi => g.cell (h3 i hi)⟩
theorem sorted_keys {L : SL} (hS : Srt L) {ss : List (List UInt8)} (h : ss.Perm (L.map (·.1))) : ss.mergeSort (fun x y => decide (x ≤ y)) = L.map (·.1) := by
 have tr : ∀ a b c : List UInt8, decide (a ≤ b) = true → decide (b ≤ c) = true → decide (a ≤ c) = true := fun a b c h1 h2 => by simp only [decide_eq_true_eq] at *; exact List.le_trans h1 h2
 have tt : ∀ a b : List UInt8, (decide (a ≤ b) || decide (b ≤ a)) = true := fun a b => by simp only [Bool.or_eq_true, decide_eq_true_eq]; exact List.le_total a b
 refine List.Perm.eq_of_pairwise (le := fun a b => decide (a ≤ b) = true) (fun a b _ _ h1 h2 => ?_) (List.pairwise_mergeSort tr tt ss) ?_ ((List.mergeSort_perm ss _).trans h)
 ·simp only [decide_eq_true_eq] at h1 h2
  exact List.le_antisymm h1 h2
 rw [List.pairwise_map]
 exact hS.imp fun h => by simpa using List.le_of_lt h
theorem RdT.of_row {w : World} {base : Nat} {v : Value} {L : SL} (h : w.ownsRow base 9 1 v L.length ((L.map (·.1)).map Go.Proofs.encStr)) : RdT w v L := by
 have h0 := h
 obtain ⟨hl, hv⟩ := h
 rcases hv with ⟨rfl, hz⟩ | ⟨g, cap, cur, rfl, hb, hg, hnc, hcm, hcs, htake⟩
 ·exact ⟨none, 0, by rw [hz], .inl hz⟩
 refine ⟨_, _, rfl, .inr ⟨g, rfl, fun i hi => ?_⟩⟩
 have c0 := h0.cells (g := g) rfl i (.string (sx L i)) (by
  rw [List.getElem?_map, List.getElem?_map, List.getElem?_eq_getElem hi]
  simp [sx, List.getD_eq_getElem?_getD, List.getElem?_eq_getElem hi])
 rw [add_flat rfl] at c0
 simpa using c0
theorem keys_row {w : World} {base : Nat} {v : Value} {L : SL} {ss : List (List UInt8)} (hL : Srt L) (hS : ss.Perm (strKeys (mapD (H := Unit) L))) (h : w.ownsRow base 9 1 v ss.length ((ss.mergeSort (fun x y => decide (x ≤ y))).map Go.Proofs.encStr)) : RdT w v L := by
 rw [mapD_keys] at hS
 have hl : ss.length = L.length := by have := hS.length_eq; rwa [List.length_map] at this
 rw [sorted_keys hL hS, hl] at h
 exact RdT.of_row h
theorem take_succ_sx {L : SL} {k : Nat} (h : k < L.length) : L.take (k + 1) = L.take k ++ [((sx L k).data.toList, sy L k)] := by
 have e : ((sx L k).data.toList, sy L k) = L[k] := by simp [sx, sy, List.getD_eq_getElem?_getD, List.getElem?_eq_getElem h]
 rw [List.take_succ_eq_append_getElem h, e]
theorem sx_mem {L : SL} {k : Nat} (h : k < L.length) : ((sx L k).data.toList, sy L k) ∈ L := by
 have : ((sx L k).data.toList, sy L k) = L[k] := by simp [sx, sy, List.getD_eq_getElem?_getD, List.getElem?_eq_getElem h]
 rw [this]; exact List.getElem_mem h
theorem cell_newp (w : World) (s : ByteArray) (q : Int) (e : TypeId) {b : Nat} (hb : w.heap.size = b) : (w.alloc (.cells #[.string s, .int .i64 q] e)).cell? ⟨b, 0, none⟩ = some (.string s) ∧ (w.alloc (.cells #[.string s, .int .i64 q] e)).cell? ⟨b, 1, none⟩ = some (.int .i64 q) := by
 subst hb
 exact box2 w s q e
theorem vS_of {L : SL} (h : VL L) : vS (sx L) (sy L) L.length = !overL L := by
 cases ho : overL L with
 | false => exact vS_iff.2 ⟨by rw [ofS_sx]; exact h, by rw [ofS_sx]; exact ho⟩
 | true =>
  cases hv : vS (sx L) (sy L) L.length with
  | false => rfl
  | true =>
   have := (vS_iff.1 hv).2
   rw [ofS_sx, ho] at this
   cases this
theorem OwnS.old {w0 w : World} {a : Option Addr} {n c : Nat} {L : SL} (h : OwnS w0 58 w (.slice a n c) L) : ∀ w1, Old w1 w 58 n a := fun w1 => by
 obtain ⟨⟨hl, hv⟩, _⟩ := h
 rcases hv with ⟨e, hz⟩ | ⟨g, cap, cur, e, hb, hg, _⟩
 ·cases e
  exact .inl rfl
 cases e
 refine .inr fun ad hd => ?_
 cases hd
 exact .inr ⟨_, _, hg⟩
def RetSO (L : SL) (b : Bool) (w : World) (e : Ending) (w' : World) : Prop := ∃ a c, e = .returned (.tuple #[.slice a L.length c, .bool b]) ∧ L.length ≤ c ∧ c ≤ maxLen ∧ RdS w' a L.length (sx L) (sy L) ∧ Gr w w' ∧ ∀ w0, Old w0 w' 58 L.length a
theorem products_own (b n : Nat) (L : SL) (w : World) (ho : OwL w b n L) (hn : n ≤ 900000) (hV : VL L) (hz : ∀ x ∈ L, x.1.length ≤ 1000) (hT : tot (fun _ => 1) L ≤ 4000000000000000000) :
  Calls Tryz.prog 81 #[.map (some b)] w (RetSO L (!overL L) w) := by
 have C1 := Lh (show Calls Tryz.prog 113 #[.map (some b)] w fun e w' => e = .returned (.func (.func 146) #[] #[.pointer (some ⟨w.heap.size, 0, none⟩)]) ∧ w' = w.alloc (.cells #[.map (some b)] 113) from callsIn_wide.1 (Tryz.maps_Keys_88 (some b) w))
 have hLn : L.length ≤ 900000 := Nat.le_trans ho.le hn
 have C2 := Lh (callsIn_wide.1 (Tryz.slices_Sorted_keys_87_88 (H := Unit) b n (mapD L) (plainElem (H := Unit) Tryz.prog 3) w ho (by rw [mapD_size]; unfold maxLen; omega) (by rw [mapD_size]; omega)))
 have HO := Lh ho
 have HV := Lh hV
 have HT := Lh hT
 have HS := Lh (fun i (hi : i < L.length) => show (sx L i).size ≤ 9223372036854775807 by
  have hm : L[i] ∈ L := List.getElem_mem hi
  have := hz _ hm
  rw [← size_key]
  simp only [sx, List.getD_eq_getElem?_getD, List.getElem?_eq_getElem hi, Option.getD_some]
  simp
  omega)
 clear ho hV hT hz
 go_enter Tryz.func81, Tryz.ntmps81
 go_wp2_with (first
  | (go_at_call 113; refine C1.out.mono ?_; rintro e w1 ⟨rfl, rfl⟩)
  | (go_at_call 112; refine C2.out.mono ?_; rintro e w2 ⟨v, ss, rfl, hS, hrow, hnil, hb⟩; obtain ⟨a1, c1, rfl, hk⟩ := keys_row HV.out.1 hS hrow; have HK := Lh (show RdT w2 (.slice a1 L.length c1) L from ⟨a1, c1, rfl, hk⟩); have HB := Lh (show Gr w w2 from ((Gr.refl w).alloc _).trans hb); clear hrow hS hnil hb hk))
 clear C1 C2
 go_loopw [4, 11] (fun vo si wr => ∃ k : Nat, k ≤ L.length ∧ si = .int .i64 k ∧ Hid (OwnS w2 58 wr vo (L.take k))) (fun _ si _ => L.length - (intOf si).toNat)
 case atStart => exact ⟨0, Nat.zero_le _, rfl, Lh (OwnS.nil w2 58)⟩
 case round =>
  obtain ⟨k, hk, rfl, HOw⟩ := hrel
  by_cases hlt : k < L.length
  ·have i1 : (k : Int) < (L.length : Int) := by omega
   obtain ⟨a2, c2, e2, hk2⟩ := HK.out.gr HOw.out.2
   obtain ⟨rfl, rfl⟩ : a1 = a2 ∧ c1 = c2 := by simpa using e2
   obtain ⟨kb, rfl, hkc⟩ : ∃ kb, a1 = some ⟨kb, 0, none⟩ ∧ ∀ i, i < L.length → wr.cell? ⟨kb, i, none⟩ = some (.string (sx L i)) := by
    rcases hk2 with hk2 | hk2
    ·omega
    exact hk2
   have ck := hkc k hlt
   have HOm := Lh (HO.out.gr (HB.out.trans HOw.out.2))
   have HTk := Lh (take_succ_sx hlt)
   have HAt := Lh (show ∀ v, (mapD (H := Unit) L).atKey (.string (sx L k).data.toList) (.lit (.int .i64 0)) = .lit (.int .i64 v) → v = sy L k from fun v hv => by
    rw [mapD_at] at hv
    have := atL_mem HV.out.1 (sx_mem hlt)
    simp only [] at this
    rw [this] at hv
    simpa using hv.symm)
   have hkey := Lh (show keyOf Tryz.prog 9 (.string (sx L k)) = some (.string (sx L k).data.toList) from keyOf_string_mk Tryz.underlying9 (key_len (HS.out k hlt)))
   have hl9 := Lh (show (L.take k).length < 999999 by rw [List.length_take]; omega)
   clear hkc e2 hk2
   generalize sx L k = s at *
   generalize sy L k = q at *
   obtain ⟨Lk, hLk⟩ : ∃ Lk, L.take k = Lk := ⟨_, rfl⟩
   rw [hLk] at HOw HTk hl9
   have HLk := Lh hLk
   clear hLk
   generalize hN : L.length = N at *
   go_wp2_with (first
    | (at_lookup; refine wpList_lookup_own_int _ rfl _ _ 113 rfl 9 3 .i64 law9 Tryz.underlying113 Tryz.underlying3 (zero3 _) b n _ rfl HOm.out _ _ rfl hkey.out ?_; intro v hv _; obtain rfl := HAt.out v hv; clear hv)
    | (at_builtin; refine wpList_app_prod rfl _ _ 50 58 rfl Tryz.underlying50 info34 _ Lk rfl (HOw.out.alloc _) _ _ _ rfl (cell_newp _ _ _ _ rfl) hl9.out ?_; intro v1 w3 hown3 _; have H3 := Lh hown3; clear hown3)
    | go_in)
   go_roundw
   case rel => exact ⟨k + 1, by omega, by go_num, Lh (by rw [HTk.out]; exact H3.out)⟩
   case measure => simp [intOf]; omega
  obtain rfl : k = L.length := by omega
  have i1 : ¬ (L.length : Int) < (L.length : Int) := by omega
  rw [List.take_length] at HOw
  obtain ⟨a3, c3, rfl, l1, l2, hrd⟩ := HOw.out.rd
  have HOl := Lh (OwnS.old HOw.out)
  have CV := Lh (ValidSum_any a3 L.length c3 (sx L) (sy L) wr (by omega) (fun i hi => HS.out i hi) hrd)
  rw [vS_of HV.out] at CV
  have HG := Lh (show Gr w wr from HB.out.trans HOw.out.2)
  have HRd := Lh (And.intro l1 (And.intro l2 hrd))
  clear hrd l1 l2 HOw
  generalize overL L = ov at *
  go_wp2_with (go_at_call 68; (with_reducible refine CV.out.mono ?_); rintro e w4 ⟨rfl, g4⟩; have G4 := Lh g4; clear g4)
  refine bodyPost_ret (v := .tuple #[.slice a3 L.length c3, .bool (!ov)]) (by simp [results, Tryz.results81, go_sem]) rfl ?_
  exact ⟨a3, c3, rfl, HRd.out.1, HRd.out.2.1, HRd.out.2.2.gr G4.out, HG.out.trans G4.out, fun w0 => (HOl.out w0).gr G4.out⟩
theorem products_any (b n : Nat) (L : SL) (w : World) (ho : OwL w b n L) (hn : n ≤ 900000) (hV : VL L) (hz : ∀ x ∈ L, x.1.length ≤ 1000) (hT : tot (fun _ => 1) L ≤ 4000000000000000000) :
  Calls Tryz.prog 81 #[.map (some b)] w (RetSB L (!overL L) w) := (products_own b n L w ho hn hV hz hT).mono fun _ _ ⟨a, c, h1, h2, h3, h4, h5, _⟩ => ⟨a, c, h1, h2, h3, h4, h5⟩
end Go.Proofs.YtehdemcfeoiecaaGreatDoor
namespace Go.Proofs.YtehdemcfeoiecaaGreatDoor
open Go.RowKit Go.Firn Go.Sort
theorem insInner_stop {a j : Nat} {d : Array Int} (h : j ≤ a) : insInner ltInt a j d = d := by
 cases j with
 | zero => rfl
 | succ j => unfold insInner; rw [decide_eq_false (by omega)]; rfl
theorem insInner_not {a j : Nat} {d : Array Int} (h : ¬ d[j + 1]! < d[j]!) : insInner ltInt a (j + 1) d = d := by
 unfold insInner ltInt; rw [decide_eq_false h, Bool.and_false]; rfl
theorem insInner_go {a j : Nat} {d : Array Int} (h1 : a < j + 1) (h : d[j + 1]! < d[j]!) : insInner ltInt a (j + 1) d = insInner ltInt a j (swp d (j + 1) j) := by
 conv => lhs; unfold insInner ltInt
 rw [decide_eq_true h, decide_eq_true h1]; rfl
theorem insOuter_go {a b i : Nat} {d : Array Int} (h : i < b) : insOuter ltInt a b i d = insOuter ltInt a b (i + 1) (insInner ltInt a i d) := by
 conv => lhs; unfold insOuter
 rw [if_pos h]
theorem insOuter_end {a b i : Nat} {d : Array Int} (h : ¬ i < b) : insOuter ltInt a b i d = d := by
 unfold insOuter; rw [if_neg h]
theorem insSort_any (b cap n a0 b0 : Nat) (d : Array Int) (w : World) (hd : d.size = n) (hn : n ≤ 1000000) (hab : a0 ≤ b0) (hb : b0 ≤ n) (hw : RowB w b d) :
  Calls Tryz.prog 205 #[.slice (some ⟨b, 0, none⟩) n cap, .int .i64 a0, .int .i64 b0] w (RetW b (insertionSort ltInt d a0 b0) w) := by
 have HW := Lh hw
 have HD := Lh hd
 have s1 : IntKind.i64.wrap ((a0 : Int) + 1) = ((a0 + 1 : Nat) : Int) := by rw [IntWalk.i64_in _ (by omega)]; omega
 clear hw hd
 go_enter Tryz.func205, Tryz.ntmps205
 go_wp2_with fail
 go_loopw [6] (fun i wr => ∃ (k : Nat) (d1 : Array Int), i = .int .i64 k ∧ Hid (a0 + 1 ≤ k) ∧ Hid (k ≤ b0 ∨ k = a0 + 1) ∧ Hid (Wr b w wr) ∧ Hid (RowB wr b d1) ∧ Hid (d1.size = n) ∧ Hid (insOuter ltInt a0 b0 k d1 = insertionSort ltInt d a0 b0)) (fun i _ => b0 - (intOf i).toNat)
 case atStart => exact ⟨a0 + 1, d, by simp, Lh (Nat.le_refl _), Lh (.inr rfl), Lh (Wr.refl _ _), HW, HD, Lh rfl⟩
 case round =>
  clear s1
  obtain ⟨k, d1, rfl, hk1, hk, HW1, HR1, HD1, HE1⟩ := hrel
  by_cases hlk : k < b0
  ·have hlki : (k : Int) < (b0 : Int) := by omega
   go_wp2_with fail
   go_loopw [7] (fun j wr' => ∃ (J : Nat) (d2 : Array Int), j = .int .i64 J ∧ Hid (J ≤ k) ∧ Hid (a0 ≤ J) ∧ Hid (Wr b w wr') ∧ Hid (RowB wr' b d2) ∧ Hid (d2.size = n) ∧ Hid (insInner ltInt a0 J d2 = insInner ltInt a0 k d1)) (fun j _ => (intOf j).toNat)
   case atStart => exact ⟨k, d1, rfl, Lh (Nat.le_refl _), Lh (by have := hk1.out; omega), HW1, HR1, HD1, Lh rfl⟩
   case round =>
    clear HW1 HR1 HD1
    obtain ⟨J, d2, rfl, hJ, hJa, HW2, HR2, HD2, HE2⟩ := hrel
    by_cases hJ0 : J ≤ a0
    ·have q0 : ¬ (a0 : Int) < (J : Int) := by omega
     have q0n : ¬ a0 < J := by omega
     have q0d : decide (a0 < J) = false := decide_eq_false q0n
     go_wp2_with fail
     go_quiet (fail)
     go_wp2_with fail
     go_roundw
     case rel => exact ⟨k + 1, d2, by go_num, Lh (by have := hk1.out; omega), Lh (.inl (by omega)), Lh (HW2.out.drewN _), HR2, HD2, Lh (by rw [← HE1.out, insOuter_go hlk, ← HE2.out, insInner_stop hJ0])⟩
     case measure => simp [intOf]; omega
    obtain ⟨jp, hjp⟩ : ∃ jp, J = jp + 1 := ⟨J - 1, by omega⟩
    have HJ := Lh hjp
    have q1 : (a0 : Int) < (J : Int) := by omega
    have q1n : a0 < J := by omega
    have q2 : IntKind.i64.wrap ((J : Int) - 1) = (jp : Int) := by rw [show (J : Int) - 1 = jp by omega]; exact IntWalk.i64_in _ (by have := hJ.out; omega)
    have q3 : (J : Int) < (n : Int) := by have := hJ.out; omega
    have q4 : (jp : Int) < (n : Int) := by have := hJ.out; omega
    obtain ⟨cj, fj⟩ := HR2.out J (by rw [HD2.out]; omega)
    obtain ⟨cp, fp⟩ := HR2.out jp (by rw [HD2.out]; omega)
    by_cases hl : d2[J]! < d2[jp]!
    ·have HE4 := Lh (show insInner ltInt a0 jp (swp d2 J jp) = insInner ltInt a0 k d1 by rw [← HE2.out, hjp, insInner_go (by omega) (by rw [← hjp]; exact hl)])
     have C := Lh (fun w1 => show Calls Tryz.prog 167 #[.int .u8 d2[J]!, .int .u8 d2[jp]!] w1 fun e w' => e = .returned (.bool true) ∧ w' = w1 by have := Less8_any d2[J]! d2[jp]! w1; rwa [decide_eq_true hl] at this)
     have HS := Lh (HR2.out.swap (i := J) (j := jp) (by rw [HD2.out]; omega) (by rw [HD2.out]; omega))
     have HD3 := Lh (show (swp d2 J jp).size = n by rw [size_swp]; exact HD2.out)
     generalize swp d2 J jp = d3 at *
     generalize d2[J]! = x at *
     generalize d2[jp]! = y at *
     clear hjp hJ0 hl HE2 HR2 HD2
     go_wp2_with fail
     go_quiet ((go_at_call 167; with_reducible exact Calls.quiet_of_same (C.out _)))
     go_wp2_with fail
     replace HS := Lh (show RowB (((wr.drewN nq).setCell ⟨b, J, none⟩ (.int .u8 y)).setCell ⟨b, jp, none⟩ (.int .u8 x)) b d3 from HS.out)
     replace HW2 := Lh (HW2.out.drewN nq)
     replace cj : (wr.drewN nq).cell? ⟨b, J, none⟩ = some (.int .u8 x) := cj
     replace cp : (wr.drewN nq).cell? ⟨b, jp, none⟩ = some (.int .u8 y) := cp
     replace fj : (wr.drewN nq).frozen? ⟨b, J, none⟩ = false := fj
     replace fp : (wr.drewN nq).frozen? ⟨b, jp, none⟩ = false := fp
     generalize wr.drewN nq = wq at *
     have cp2 := cell_by (k := J) cp (by have := HJ.out; omega) (.int .u8 y)
     have cj2 := cell_by (k := jp) cj (by have := HJ.out; omega) (.int .u8 x)
     go_region
     all_goals go_wp2
     go_roundw
     case rel => exact ⟨jp, d3, by go_num, Lh (by have := HJ.out; have := hJ.out; omega), Lh (by have := HJ.out; omega), Lh ((HW2.out.set J _).set jp _).drew, HS, HD3, HE4⟩
     case measure => have := HJ.out; simp [intOf]; omega
    have HE4 := Lh (show d2 = insInner ltInt a0 k d1 by rw [← HE2.out, hjp, insInner_not (by rw [← hjp]; exact hl)])
    have C := Lh (fun w1 => show Calls Tryz.prog 167 #[.int .u8 d2[J]!, .int .u8 d2[jp]!] w1 fun e w' => e = .returned (.bool false) ∧ w' = w1 by have := Less8_any d2[J]! d2[jp]! w1; rwa [decide_eq_false hl] at this)
    generalize d2[J]! = x at *
    generalize d2[jp]! = y at *
    clear hjp hJ0 hl HE2
    go_wp2_with fail
    go_quiet ((go_at_call 167; with_reducible exact Calls.quiet_of_same (C.out _)))
    go_wp2_with fail
    go_roundw
    case rel => exact ⟨k + 1, d2, by go_num, Lh (by have := hk1.out; omega), Lh (.inl (by omega)), Lh (HW2.out.drewN _), HR2, HD2, Lh (by rw [← HE1.out, insOuter_go hlk, ← HE4.out])⟩
    case measure => simp [intOf]; omega
  have hlki : ¬ (k : Int) < (b0 : Int) := by omega
  go_wp2_with fail
  go_end0
  refine ⟨rfl, HW1.out, ?_⟩
  rw [← HE1.out, insOuter_end hlk]
  exact HR1.out
theorem wadd {x y z : Nat} (h : x + y = z) (hz : z ≤ 100000000) : IntKind.i64.wrap ((x : Int) + (y : Int)) = (z : Int) := by rw [IntWalk.i64_in _ (by omega)]; omega
theorem wadd1 {x z : Nat} (h : x + 1 = z) (hz : z ≤ 100000000) : IntKind.i64.wrap ((x : Int) + 1) = (z : Int) := by rw [IntWalk.i64_in _ (by omega)]; omega
theorem wsub {x y z : Nat} (h : z + y = x) (hx : x ≤ 100000000) : IntKind.i64.wrap ((x : Int) - (y : Int)) = (z : Int) := by rw [IntWalk.i64_in _ (by omega)]; omega
theorem wsub1 {x z : Nat} (h : z + 1 = x) (hx : x ≤ 100000000) : IntKind.i64.wrap ((x : Int) - 1) = (z : Int) := by rw [IntWalk.i64_in _ (by omega)]; omega
theorem wmul2 {x z : Nat} (h : 2 * x = z) (hz : z ≤ 100000000) : IntKind.i64.wrap (2 * (x : Int)) = (z : Int) := by rw [IntWalk.i64_in _ (by omega)]; omega
theorem sift_end {hi F r : Nat} {d : Array Int} (h : hi ≤ 2 * r + 1) : siftDown ltInt hi F r d = d := by
 unfold siftDown; rw [dif_pos (show 2 * r + 1 ≥ hi from h)]
theorem sift_two {hi F r : Nat} {d : Array Int} (h : 2 * r + 2 < hi) (hl : d[F + (2 * r + 1)]! < d[F + (2 * r + 1) + 1]!) :
  siftDown ltInt hi F r d = if d[F + r]! < d[F + (2 * r + 2)]! then siftDown ltInt hi F (2 * r + 2) (swp d (F + r) (F + (2 * r + 2))) else d := by
 conv => lhs; unfold siftDown
 rw [dif_neg (by omega), if_pos (by unfold ltInt; rw [decide_eq_true (show 2 * r + 1 + 1 < hi by omega), decide_eq_true hl]; rfl)]
 unfold ltInt
 by_cases h2 : d[F + r]! < d[F + (2 * r + 2)]!
 ·rw [if_pos h2, decide_eq_true h2, if_neg (by simp), dif_pos h]
 rw [if_neg h2, decide_eq_false h2, if_pos (by simp)]
theorem sift_one {hi F r : Nat} {d : Array Int} (h : 2 * r + 1 < hi) (hl : 2 * r + 2 < hi → ¬ d[F + (2 * r + 1)]! < d[F + (2 * r + 1) + 1]!) :
  siftDown ltInt hi F r d = if d[F + r]! < d[F + (2 * r + 1)]! then siftDown ltInt hi F (2 * r + 1) (swp d (F + r) (F + (2 * r + 1))) else d := by
 conv => lhs; unfold siftDown
 rw [dif_neg (by omega), if_neg (by
  unfold ltInt
  by_cases h1 : 2 * r + 2 < hi
  ·rw [decide_eq_false (hl h1)]; simp
  rw [decide_eq_false (show ¬ 2 * r + 1 + 1 < hi by omega)]; simp)]
 unfold ltInt
 by_cases h2 : d[F + r]! < d[F + (2 * r + 1)]!
 ·rw [if_pos h2, decide_eq_true h2, if_neg (by simp)]
 rw [if_neg h2, decide_eq_false h2, if_pos (by simp)]
theorem sift_any (b cap n lo hi F : Nat) (d : Array Int) (w : World) (hd : d.size = n) (hn : n ≤ 1000000) (hlo : lo ≤ n) (hF : F + hi ≤ n) (hw : RowB w b d) :
  Calls Tryz.prog 238 #[.slice (some ⟨b, 0, none⟩) n cap, .int .i64 lo, .int .i64 hi, .int .i64 F] w (RetW b (siftDown ltInt hi F lo d) w) := by
 have HW := Lh hw
 have HD := Lh hd
 clear hw hd
 go_enter Tryz.func238, Tryz.ntmps238
 go_wp2_with fail
 go_loopw [8, 9] (fun i _ wr => ∃ (r : Nat) (d1 : Array Int), i = .int .i64 r ∧ Hid (r ≤ n) ∧ Hid (Wr b w wr) ∧ Hid (RowB wr b d1) ∧ Hid (d1.size = n) ∧ Hid (siftDown ltInt hi F r d1 = siftDown ltInt hi F lo d)) (fun i _ _ => n - (intOf i).toNat)
 case atStart => exact ⟨lo, d, rfl, Lh hlo, Lh (Wr.refl _ _), HW, HD, Lh rfl⟩
 case round =>
  obtain ⟨r, d1, rfl, hr, HW2, HR1, HD1, HE1⟩ := hrel
  obtain ⟨C0, hC0⟩ : ∃ C0, 2 * r = C0 := ⟨_, rfl⟩
  obtain ⟨c, hc⟩ : ∃ c, C0 + 1 = c := ⟨_, rfl⟩
  have hr' := hr.out
  have e1 := wmul2 hC0 (by omega)
  have e2 := wadd1 hc (by omega)
  by_cases hch : hi ≤ c
  ·have HE2 := Lh (show d1 = siftDown ltInt hi F lo d by rw [← HE1.out, sift_end (by omega)])
   clear hC0 hc hr'
   go_wp2_with fail
   go_end0
   exact ⟨rfl, HW2.out, by rw [← HE2.out]; exact HR1.out⟩
  have hch2 : c < hi := by omega
  obtain ⟨c1, hc1⟩ : ∃ c1, c + 1 = c1 := ⟨_, rfl⟩
  have e3 := wadd1 hc1 (by omega)
  obtain ⟨fr, hfr⟩ : ∃ fr, F + r = fr := ⟨_, rfl⟩
  obtain ⟨fc, hfc⟩ : ∃ fc, F + c = fc := ⟨_, rfl⟩
  have e4 := wadd hfr (by omega)
  have e5 := wadd hfc (by omega)
  obtain ⟨crn, frn⟩ := HR1.out fr (by rw [HD1.out]; omega)
  obtain ⟨ccn, fcn⟩ := HR1.out fc (by rw [HD1.out]; omega)
  have i1 : (fr : Int) < (n : Int) := by omega
  have i2 : (fc : Int) < (n : Int) := by omega
  by_cases hch3 : c1 < hi
  ·obtain ⟨fc1, hfc1⟩ : ∃ fc1, F + c1 = fc1 := ⟨_, rfl⟩
   obtain ⟨cc1, fc1n⟩ := HR1.out fc1 (by rw [HD1.out]; omega)
   have e6 := wadd1 (show fc + 1 = fc1 by omega) (by omega)
   have e7 := wadd hfc1 (by omega)
   have i3 : (fc1 : Int) < (n : Int) := by omega
   by_cases hl1 : d1[fc]! < d1[fc1]!
   focus
    have HE2 := Lh (show (if d1[fr]! < d1[fc1]! then siftDown ltInt hi F c1 (swp d1 fr fc1) else d1) = siftDown ltInt hi F lo d by
     have E := sift_two (hi := hi) (F := F) (r := r) (d := d1) (by omega) (by rw [show F + (2 * r + 1) = fc by omega, show fc + 1 = fc1 by omega]; exact hl1)
     rw [HE1.out, show F + r = fr by omega, show F + (2 * r + 2) = fc1 by omega, show 2 * r + 2 = c1 by omega] at E
     exact E.symm)
    have C := Lh (fun w1 => show Calls Tryz.prog 167 #[.int .u8 d1[fc]!, .int .u8 d1[fc1]!] w1 fun e w' => e = .returned (.bool true) ∧ w' = w1 by have := Less8_any d1[fc]! d1[fc1]! w1; rwa [decide_eq_true hl1] at this)
    have HCC := Lh C
    have HX := Lh (show fc1 ≠ fr ∧ c1 ≤ n ∧ r < c1 by omega)
    obtain ⟨z, hz⟩ : ∃ z, d1[fc]! = z := ⟨_, rfl⟩
    rw [hz] at ccn C
    clear hz hl1 HE1 HCC
    go_wp2_with fail
    go_quiet ((go_at_call 167; with_reducible exact Calls.quiet_of_same (C.out _)))
    go_wp2_with fail
    clear C ccn
    replace crn : (wr.drewN nq).cell? ⟨b, fr, none⟩ = some (.int .u8 d1[fr]!) := crn
    replace cc1 : (wr.drewN nq).cell? ⟨b, fc1, none⟩ = some (.int .u8 d1[fc1]!) := cc1
    replace frn : (wr.drewN nq).frozen? ⟨b, fr, none⟩ = false := frn
    replace fc1n : (wr.drewN nq).frozen? ⟨b, fc1, none⟩ = false := fc1n
    replace HW2 := Lh (HW2.out.drewN nq)
    replace HR1 := Lh (show RowB (wr.drewN nq) b d1 from HR1.out)
    generalize wr.drewN nq = wp at *
    by_cases hl : d1[fr]! < d1[fc1]!
    ·have HE4 := Lh (show siftDown ltInt hi F c1 (swp d1 fr fc1) = siftDown ltInt hi F lo d by rw [← HE2.out, if_pos hl])
     have C := Lh (fun w1 => show Calls Tryz.prog 167 #[.int .u8 d1[fr]!, .int .u8 d1[fc1]!] w1 fun e w' => e = .returned (.bool true) ∧ w' = w1 by have := Less8_any d1[fr]! d1[fc1]! w1; rwa [decide_eq_true hl] at this)
     have HS := Lh (HR1.out.swap (i := fr) (j := fc1) (by rw [HD1.out]; omega) (by rw [HD1.out]; omega))
     have HD3 := Lh (show (swp d1 fr fc1).size = n by rw [size_swp]; exact HD1.out)
     have HN := Lh (show fr ≠ fc1 by omega)
     have HM := Lh (show c1 ≤ n ∧ n - c1 < n - r by omega)
     generalize swp d1 fr fc1 = d3 at *
     generalize d1[fr]! = x at *
     generalize d1[fc1]! = y at *
     clear hl HE2 HR1 HD1 hr' hC0 hc hc1 hfr hfc hfc1 e1 e2 e3 e6
     go_wp2_with fail
     go_quiet ((go_at_call 167; with_reducible exact Calls.quiet_of_same (C.out _)))
     go_wp2_with fail
     replace HS := Lh (show RowB (((wp.drewN nq).setCell ⟨b, fr, none⟩ (.int .u8 y)).setCell ⟨b, fc1, none⟩ (.int .u8 x)) b _ from HS.out)
     replace HW2 := Lh (HW2.out.drewN nq)
     replace crn : (wp.drewN nq).cell? ⟨b, fr, none⟩ = some (.int .u8 x) := crn
     replace cc1 : (wp.drewN nq).cell? ⟨b, fc1, none⟩ = some (.int .u8 y) := cc1
     replace frn : (wp.drewN nq).frozen? ⟨b, fr, none⟩ = false := frn
     replace fc1n : (wp.drewN nq).frozen? ⟨b, fc1, none⟩ = false := fc1n
     generalize wp.drewN nq = wq at *
     have cp2 := cell_by (k := fr) cc1 HN.out (.int .u8 y)
     have cj2 := cell_by (k := fc1) crn HN.out.symm (.int .u8 x)
     go_region
     all_goals go_wp2
     go_roundw
     case rel => exact ⟨c1, d3, by go_num, Lh HM.out.1, Lh ((HW2.out.set fr _).set fc1 _).drew, HS, HD3, HE4⟩
     case measure => have := HM.out.2; simpa [intOf] using this
    have HE4 := Lh (show d1 = siftDown ltInt hi F lo d by rw [← HE2.out, if_neg hl])
    have C := Lh (fun w1 => show Calls Tryz.prog 167 #[.int .u8 d1[fr]!, .int .u8 d1[fc1]!] w1 fun e w' => e = .returned (.bool false) ∧ w' = w1 by have := Less8_any d1[fr]! d1[fc1]! w1; rwa [decide_eq_false hl] at this)
    generalize d1[fr]! = x at *
    generalize d1[fc1]! = y at *
   rotate_left
   focus
    have HE2 := Lh (show (if d1[fr]! < d1[fc]! then siftDown ltInt hi F c (swp d1 fr fc) else d1) = siftDown ltInt hi F lo d by
     have E := sift_one (hi := hi) (F := F) (r := r) (d := d1) (by omega) (fun _ => by rw [show F + (2 * r + 1) = fc by omega, show fc + 1 = fc1 by omega]; exact hl1)
     rw [HE1.out, show F + r = fr by omega, show F + (2 * r + 1) = fc by omega, show 2 * r + 1 = c by omega] at E
     exact E.symm)
    have C := Lh (fun w1 => show Calls Tryz.prog 167 #[.int .u8 d1[fc]!, .int .u8 d1[fc1]!] w1 fun e w' => e = .returned (.bool false) ∧ w' = w1 by have := Less8_any d1[fc]! d1[fc1]! w1; rwa [decide_eq_false hl1] at this)
    obtain ⟨z, hz⟩ : ∃ z, d1[fc1]! = z := ⟨_, rfl⟩
    rw [hz] at cc1 C
    clear hz hl1 HE1
    go_wp2_with fail
    go_quiet ((go_at_call 167; with_reducible exact Calls.quiet_of_same (C.out _)))
    go_wp2_with fail
    clear C cc1 fc1n
    replace crn : (wr.drewN nq).cell? ⟨b, fr, none⟩ = some (.int .u8 d1[fr]!) := crn
    replace ccn : (wr.drewN nq).cell? ⟨b, fc, none⟩ = some (.int .u8 d1[fc]!) := ccn
    replace frn : (wr.drewN nq).frozen? ⟨b, fr, none⟩ = false := frn
    replace fcn : (wr.drewN nq).frozen? ⟨b, fc, none⟩ = false := fcn
    replace HW2 := Lh (HW2.out.drewN nq)
    replace HR1 := Lh (show RowB (wr.drewN nq) b d1 from HR1.out)
    generalize wr.drewN nq = wp at *
    by_cases hl : d1[fr]! < d1[fc]!
    ·have HE4 := Lh (show siftDown ltInt hi F c (swp d1 fr fc) = siftDown ltInt hi F lo d by rw [← HE2.out, if_pos hl])
     have C := Lh (fun w1 => show Calls Tryz.prog 167 #[.int .u8 d1[fr]!, .int .u8 d1[fc]!] w1 fun e w' => e = .returned (.bool true) ∧ w' = w1 by have := Less8_any d1[fr]! d1[fc]! w1; rwa [decide_eq_true hl] at this)
     have HS := Lh (HR1.out.swap (i := fr) (j := fc) (by rw [HD1.out]; omega) (by rw [HD1.out]; omega))
     have HD3 := Lh (show (swp d1 fr fc).size = n by rw [size_swp]; exact HD1.out)
     have HN := Lh (show fr ≠ fc by omega)
     have HM := Lh (show c ≤ n ∧ n - c < n - r by omega)
     generalize swp d1 fr fc = d3 at *
     generalize d1[fr]! = x at *
     generalize d1[fc]! = y at *
     clear hl HE2 HR1 HD1 hr' hC0 hc hc1 hfr hfc hfc1 e1 e2 e3 e6
     go_wp2_with fail
     go_quiet ((go_at_call 167; with_reducible exact Calls.quiet_of_same (C.out _)))
     go_wp2_with fail
     replace HS := Lh (show RowB (((wp.drewN nq).setCell ⟨b, fr, none⟩ (.int .u8 y)).setCell ⟨b, fc, none⟩ (.int .u8 x)) b _ from HS.out)
     replace HW2 := Lh (HW2.out.drewN nq)
     replace crn : (wp.drewN nq).cell? ⟨b, fr, none⟩ = some (.int .u8 x) := crn
     replace ccn : (wp.drewN nq).cell? ⟨b, fc, none⟩ = some (.int .u8 y) := ccn
     replace frn : (wp.drewN nq).frozen? ⟨b, fr, none⟩ = false := frn
     replace fcn : (wp.drewN nq).frozen? ⟨b, fc, none⟩ = false := fcn
     generalize wp.drewN nq = wq at *
     have cp2 := cell_by (k := fr) ccn HN.out (.int .u8 y)
     have cj2 := cell_by (k := fc) crn HN.out.symm (.int .u8 x)
     go_region
     all_goals go_wp2
     go_roundw
     case rel => exact ⟨c, d3, by go_num, Lh HM.out.1, Lh ((HW2.out.set fr _).set fc _).drew, HS, HD3, HE4⟩
     case measure => have := HM.out.2; simpa [intOf] using this
    have HE4 := Lh (show d1 = siftDown ltInt hi F lo d by rw [← HE2.out, if_neg hl])
    have C := Lh (fun w1 => show Calls Tryz.prog 167 #[.int .u8 d1[fr]!, .int .u8 d1[fc]!] w1 fun e w' => e = .returned (.bool false) ∧ w' = w1 by have := Less8_any d1[fr]! d1[fc]! w1; rwa [decide_eq_false hl] at this)
    generalize d1[fr]! = x at *
    generalize d1[fc]! = y at *
   all_goals
    clear hl HE2 hr' hC0 hc hc1 hfr hfc hfc1 e1 e2 e3 e6
    go_wp2_with fail
    go_quiet ((go_at_call 167; with_reducible exact Calls.quiet_of_same (C.out _)))
    go_wp2_with fail
    go_end0
    exact ⟨rfl, Lh (HW2.out.drewN _) |>.out, by rw [← HE4.out]; exact HR1.out⟩
  have HE2 := Lh (show (if d1[fr]! < d1[fc]! then siftDown ltInt hi F c (swp d1 fr fc) else d1) = siftDown ltInt hi F lo d by
   have E := sift_one (hi := hi) (F := F) (r := r) (d := d1) (by omega) (fun h => absurd h (by omega))
   rw [HE1.out, show F + r = fr by omega, show F + (2 * r + 1) = fc by omega, show 2 * r + 1 = c by omega] at E
   exact E.symm)
  clear HE1
  go_wp2_with fail
  go_quiet (fail)
  go_wp2_with fail
  replace crn : (wr.drewN nq).cell? ⟨b, fr, none⟩ = some (.int .u8 d1[fr]!) := crn
  replace ccn : (wr.drewN nq).cell? ⟨b, fc, none⟩ = some (.int .u8 d1[fc]!) := ccn
  replace frn : (wr.drewN nq).frozen? ⟨b, fr, none⟩ = false := frn
  replace fcn : (wr.drewN nq).frozen? ⟨b, fc, none⟩ = false := fcn
  replace HW2 := Lh (HW2.out.drewN nq)
  replace HR1 := Lh (show RowB (wr.drewN nq) b d1 from HR1.out)
  generalize wr.drewN nq = wp at *
  by_cases hl : d1[fr]! < d1[fc]!
  ·have HE4 := Lh (show siftDown ltInt hi F c (swp d1 fr fc) = siftDown ltInt hi F lo d by rw [← HE2.out, if_pos hl])
   have C := Lh (fun w1 => show Calls Tryz.prog 167 #[.int .u8 d1[fr]!, .int .u8 d1[fc]!] w1 fun e w' => e = .returned (.bool true) ∧ w' = w1 by have := Less8_any d1[fr]! d1[fc]! w1; rwa [decide_eq_true hl] at this)
   have HS := Lh (HR1.out.swap (i := fr) (j := fc) (by rw [HD1.out]; omega) (by rw [HD1.out]; omega))
   have HD3 := Lh (show (swp d1 fr fc).size = n by rw [size_swp]; exact HD1.out)
   have HN := Lh (show fr ≠ fc by omega)
   have HM := Lh (show c ≤ n ∧ n - c < n - r by omega)
   generalize swp d1 fr fc = d3 at *
   generalize d1[fr]! = x at *
   generalize d1[fc]! = y at *
   clear hl HE2 HR1 HD1 hr' hC0 hc hc1 hfr hfc e1 e2 e3
   go_wp2_with fail
   go_quiet ((go_at_call 167; with_reducible exact Calls.quiet_of_same (C.out _)))
   go_wp2_with fail
   replace HS := Lh (show RowB (((wp.drewN nq).setCell ⟨b, fr, none⟩ (.int .u8 y)).setCell ⟨b, fc, none⟩ (.int .u8 x)) b _ from HS.out)
   replace HW2 := Lh (HW2.out.drewN nq)
   replace crn : (wp.drewN nq).cell? ⟨b, fr, none⟩ = some (.int .u8 x) := crn
   replace ccn : (wp.drewN nq).cell? ⟨b, fc, none⟩ = some (.int .u8 y) := ccn
   replace frn : (wp.drewN nq).frozen? ⟨b, fr, none⟩ = false := frn
   replace fcn : (wp.drewN nq).frozen? ⟨b, fc, none⟩ = false := fcn
   generalize wp.drewN nq = wq at *
   have cp2 := cell_by (k := fr) ccn HN.out (.int .u8 y)
   have cj2 := cell_by (k := fc) crn HN.out.symm (.int .u8 x)
   go_region
   all_goals go_wp2
   go_roundw
   case rel => exact ⟨c, d3, by go_num, Lh HM.out.1, Lh ((HW2.out.set fr _).set fc _).drew, HS, HD3, HE4⟩
   case measure => have := HM.out.2; simpa [intOf] using this
  have HE4 := Lh (show d1 = siftDown ltInt hi F lo d by rw [← HE2.out, if_neg hl])
  have C := Lh (fun w1 => show Calls Tryz.prog 167 #[.int .u8 d1[fr]!, .int .u8 d1[fc]!] w1 fun e w' => e = .returned (.bool false) ∧ w' = w1 by have := Less8_any d1[fr]! d1[fc]! w1; rwa [decide_eq_false hl] at this)
  generalize d1[fr]! = x at *
  generalize d1[fc]! = y at *
  clear hl HE2 hr' hC0 hc hc1 hfr hfc e1 e2 e3
  go_wp2_with fail
  go_quiet ((go_at_call 167; with_reducible exact Calls.quiet_of_same (C.out _)))
  go_wp2_with fail
  go_end0
  exact ⟨rfl, Lh (HW2.out.drewN _) |>.out, by rw [← HE4.out]; exact HR1.out⟩
theorem sift_size (hi F : Nat) : ∀ (m r : Nat) (d : Array Int), hi - r ≤ m → (siftDown ltInt hi F r d).size = d.size
 | 0, r, d, h => by rw [sift_end (by omega)]
 | m + 1, r, d, h => by
  by_cases h1 : hi ≤ 2 * r + 1
  ·rw [sift_end h1]
  by_cases h2 : 2 * r + 2 < hi ∧ d[F + (2 * r + 1)]! < d[F + (2 * r + 1) + 1]!
  ·rw [sift_two h2.1 h2.2]
   split
   ·rw [sift_size hi F m _ _ (by omega), size_swp]
   rfl
  rw [sift_one (by omega) (fun h3 h4 => h2 ⟨h3, h4⟩)]
  split
  ·rw [sift_size hi F m _ _ (by omega), size_swp]
  rfl
theorem heap_any (b cap n a0 b0 : Nat) (d : Array Int) (w : World) (hd : d.size = n) (hn : n ≤ 1000000) (hab : a0 < b0) (hb : b0 ≤ n) (hw : RowB w b d) :
  Calls Tryz.prog 206 #[.slice (some ⟨b, 0, none⟩) n cap, .int .i64 a0, .int .i64 b0] w (RetW b (heapSort ltInt d a0 b0) w) := by
 have HW := Lh hw
 have HD := Lh hd
 obtain ⟨m, hm⟩ : ∃ m, b0 - a0 = m + 1 := ⟨b0 - a0 - 1, by omega⟩
 obtain ⟨M, hM⟩ : ∃ M, m + 1 = M := ⟨_, rfl⟩
 obtain ⟨q, hq⟩ : ∃ q, m / 2 = q := ⟨_, rfl⟩
 have HH := Lh (show heapSort ltInt d a0 b0 = heapPop ltInt a0 M (heapBuild ltInt M a0 (q + 1) d) by unfold heapSort; rw [show b0 - a0 = M by omega, show (M - 1) / 2 = q by omega])
 have HF := Lh (show a0 + M ≤ n ∧ M ≤ n ∧ m + 1 = M ∧ a0 < n ∧ q ≤ m by omega)
 have a0n : (a0 : Int) < (n : Int) := by omega
 have e1 : IntKind.i64.wrap ((b0 : Int) - (a0 : Int)) = (M : Int) := wsub (by omega) (by omega)
 have e2 : IntKind.i64.wrap ((M : Int) - 1) = (m : Int) := wsub1 (by omega) (by omega)
 have e3' : wrap64 ((m : Int) / 2) = (q : Int) := by rw [IntWalk.wrap64_in _ (by omega)]; omega
 clear hw hd hm hM hq hab hb
 go_enter Tryz.func206, Tryz.ntmps206
 go_wp2_with fail
 have E3 := Lh e3'
 clear e1 e2 e3'
 go_loopw [9] (fun i wr => ∃ (k : Nat) (d1 : Array Int), i = .int .i64 ((k : Int) - 1) ∧ Hid (k ≤ q + 1) ∧ Hid (Wr b w wr) ∧ Hid (RowB wr b d1) ∧ Hid (d1.size = n) ∧ Hid (heapBuild ltInt M a0 k d1 = heapBuild ltInt M a0 (q + 1) d)) (fun i _ => (intOf i + 1).toNat)
 case atStart => exact ⟨q + 1, d, by congr 1; have := E3.out; omega, Lh (Nat.le_refl _), Lh (Wr.refl _ _), HW, HD, Lh rfl⟩
 case round =>
  obtain ⟨k, d1, hik, hk, HW2, HR1, HD1, HE1⟩ := hrel
  cases k with
  | succ j =>
   obtain rfl : _ = Value.int .i64 (j : Int) := hik.trans (by congr 1 <;> omega)
   clear hik
   have i0 : (0 : Int) ≤ (j : Int) := by omega
   have e4 : IntKind.i64.wrap ((j : Int) - 1) = (j : Int) - 1 := IntWalk.i64_in _ (by have := hk.out; have := HF.out; omega)
   have CS := Lh (sift_any b cap n j M a0 d1 wr HD1.out hn (by have := hk.out; have := HF.out; omega) HF.out.1 HR1.out)
   have HD3 := Lh (show (siftDown ltInt M a0 j d1).size = n by rw [sift_size M a0 _ _ _ (Nat.le_refl _)]; exact HD1.out)
   have HE4 := Lh (show heapBuild ltInt M a0 j (siftDown ltInt M a0 j d1) = heapBuild ltInt M a0 (q + 1) d from HE1.out)
   generalize siftDown ltInt M a0 j d1 = d3 at *
   go_wp2_with (go_at_call 238; (with_reducible refine CS.out.mono ?_); rintro e w1 ⟨rfl, gW, gR⟩; have GW := Lh gW; have GR := Lh gR; clear gW gR)
   go_roundw
   case rel => exact ⟨j, d3, rfl, Lh (by have := hk.out; omega), Lh (HW2.out.trans GW.out), GR, HD3, HE4⟩
   case measure => simp [intOf] <;> omega
  | zero =>
   obtain rfl : _ = Value.int .i64 (-1) := hik.trans (by simp)
   clear hik
   have HH2 := Lh (show heapSort ltInt d a0 b0 = heapPop ltInt a0 M d1 by rw [HH.out, ← HE1.out]; rfl)
   have e5 : IntKind.i64.wrap ((M : Int) - 1) = (M : Int) - 1 := IntWalk.i64_in _ (by have := HF.out; omega)
   clear hk HE1 HH
   go_wp2_with fail
   go_loopw [10] (fun i wr' => ∃ (k : Nat) (d2 : Array Int), i = .int .i64 ((k : Int) - 1) ∧ Hid (k ≤ M) ∧ Hid (Wr b w wr') ∧ Hid (RowB wr' b d2) ∧ Hid (d2.size = n) ∧ Hid (heapSort ltInt d a0 b0 = heapPop ltInt a0 k d2)) (fun i _ => (intOf i + 1).toNat)
   case atStart => exact ⟨M, d1, rfl, Lh (Nat.le_refl _), HW2, HR1, HD1, HH2⟩
   case round =>
    clear HW2 HR1 HD1 HH2 e5
    obtain ⟨k, d2, hik2, hk, HW2, HR1, HD1, HE1⟩ := hrel
    cases k with
    | succ j =>
     obtain rfl : _ = Value.int .i64 (j : Int) := hik2.trans (by congr 1 <;> omega)
     clear hik2
     have i0 : (0 : Int) ≤ (j : Int) := by omega
     have e4 : IntKind.i64.wrap ((j : Int) - 1) = (j : Int) - 1 := IntWalk.i64_in _ (by have := hk.out; have := HF.out; omega)
     obtain ⟨fj, hfj⟩ : ∃ fj, a0 + j = fj := ⟨_, rfl⟩
     have HJ := Lh hfj
     have e6 : IntKind.i64.wrap ((a0 : Int) + (j : Int)) = (fj : Int) := wadd hfj (by have := hk.out; have := HF.out; omega)
     have i1 : (fj : Int) < (n : Int) := by have := hk.out; have := HF.out; omega
     have CS := Lh (fun w1 (h : RowB w1 b (swp d2 a0 fj)) => show Calls Tryz.prog 238 #[.slice (some ⟨b, 0, none⟩) n cap, .int .i64 0, .int .i64 j, .int .i64 a0] w1 (RetW b (siftDown ltInt j a0 0 (swp d2 a0 fj)) w1) from sift_any b cap n 0 j a0 (swp d2 a0 fj) w1 (by rw [size_swp]; exact HD1.out) hn (by omega) (by have := hk.out; have := HF.out; omega) h)
     have HD3 := Lh (show (siftDown ltInt j a0 0 (swp d2 a0 fj)).size = n by rw [sift_size j a0 _ _ _ (Nat.le_refl _), size_swp]; exact HD1.out)
     have HE4 := Lh (show heapSort ltInt d a0 b0 = heapPop ltInt a0 j (siftDown ltInt j a0 0 (swp d2 a0 fj)) by rw [HE1.out, ← HJ.out]; rfl)
     obtain ⟨cj, fjz⟩ := HR1.out a0 (by rw [HD1.out]; omega)
     obtain ⟨cp, fpz⟩ := HR1.out fj (by rw [HD1.out]; omega)
     have HS := Lh (HR1.out.swap (i := a0) (j := fj) (by rw [HD1.out]; omega) (by rw [HD1.out]; omega))
     generalize siftDown ltInt j a0 0 (swp d2 a0 fj) = d3 at *
     generalize swp d2 a0 fj = d4 at *
     by_cases hz : a0 = fj
     ·subst hz
      generalize d2[a0]! = x at *
      clear hfj HE1 HR1 HD1 cp fpz
      have cp2 := cell_near cj (.int .u8 x)
      have HSd := Lh (show RowB ((wr.setCell ⟨b, a0, none⟩ (.int .u8 x)).setCell ⟨b, a0, none⟩ (.int .u8 x)).drew b d4 from HS.out)
      go_wp2_with fail
      go_region
      all_goals (go_wp2_with (go_at_call 238; (with_reducible refine (CS.out _ HSd.out).mono ?_); rintro e w1 ⟨rfl, gW, gR⟩; have GW := Lh gW; have GR := Lh gR; clear gW gR))
      go_roundw
      case rel => exact ⟨j, d3, rfl, Lh (by have := hk.out; omega), Lh (((HW2.out.set a0 _).set a0 _).drew.trans GW.out), GR, HD3, HE4⟩
      case measure => simp [intOf] <;> omega
     have HN := Lh (show a0 ≠ fj from hz)
     generalize d2[a0]! = x at *
     generalize d2[fj]! = y at *
     clear hfj HE1 HR1 HD1 hz
     have cp2 := cell_by (k := a0) cp HN.out (.int .u8 y)
     have cj2 := cell_by (k := fj) cj HN.out.symm (.int .u8 x)
     have HSd := Lh (show RowB ((wr.setCell ⟨b, a0, none⟩ (.int .u8 y)).setCell ⟨b, fj, none⟩ (.int .u8 x)).drew b d4 from HS.out)
     go_wp2_with fail
     go_region
     all_goals (go_wp2_with (go_at_call 238; (with_reducible refine (CS.out _ HSd.out).mono ?_); rintro e w1 ⟨rfl, gW, gR⟩; have GW := Lh gW; have GR := Lh gR; clear gW gR))
     go_roundw
     case rel => exact ⟨j, d3, rfl, Lh (by have := hk.out; omega), Lh (((HW2.out.set a0 _).set fj _).drew.trans GW.out), GR, HD3, HE4⟩
     case measure => simp [intOf] <;> omega
    | zero =>
     obtain rfl : _ = Value.int .i64 (-1) := hik2.trans (by simp)
     clear hik2
     go_wp2_with fail
     go_end0
     exact ⟨rfl, HW2.out, by rw [HE1.out]; exact HR1.out⟩
end Go.Proofs.YtehdemcfeoiecaaGreatDoor
