import Derived.RangeFuncFrom
import Derived.RangeFuncBound
import Derived.RangeFuncCalls
import Derived.RangeFuncLeaves
import Derived.Shelf.Abstract
import Derived.Shelf.RegionOpen
import Derived.TacticsInMore
import Derived.LoopNIn
import Derived.LoopIn
import Derived.Shelf.Strings.Prefix
import Derived.Shelf.Strings.Search3
import Derived.Shelf.Strconv.Itoa3
import Derived.Shelf.Strconv.AtoiAll
import Derived.Shelf.LaysM
import Derived.Shelf.LaysC
import Derived.Test.YtehdemcfeoiecaaGreatDoorA04
set_option maxHeartbeats 64000000
set_option maxRecDepth 100000
namespace Go.Proofs.YtehdemcfeoiecaaGreatDoor
open Go.RowKit Go.Firn Go.Shelf
theorem Tryz.info3 : (Tryz.prog.info? 3).map (fun i => (i.zero, i.size, i.bytes)) = some (some (.int .i64 0), 1, 8) := by kernel_rfl
theorem value_any (a a' : Option Addr) (n c c' : Nat) (f : Nat → ByteArray) (g : Nat → Int) (l : Nat → Int) (w : World) (hS : vS f g n = true) (hr : RdS w a n f g) (hl : RdI w a' 8 l) (hb : ∀ i, i < 8 → 0 ≤ l i ∧ l i ≤ 10) :
  Calls Tryz.prog 43 #[.slice a n c, .slice a' 8 c'] w fun e w' => e = .returned (.int .i64 (vlS l f g n)) ∧ Gr w w' := by
 have HR := Lh hr
 have HL := Lh hl
 have HB := Lh hb
 have VS := Lh (fun i (hi : i < n) => (vS_at hS).2 i hi)
 have n40 := (vS_at hS).1
 have VB := Lh (fun k (hk : k ≤ n) => vlS_bd hb hS k hk)
 have VN := Lh (fun k => show vlS l f g (k + 1) = vlS l f g k + prd l (f k) (g k) (f k).size from rfl)
 clear hr hl hb hS
 go_enter Tryz.func43, Tryz.ntmps43
 go_wp2
 go_loopw [5, 12] (fun so si wr => ∃ k : Nat, k ≤ n ∧ so = .int .i64 (vlS l f g k) ∧ si = .int .i64 k ∧ Hid (Gr w wr)) (fun _ si _ => n - (intOf si).toNat)
 case atStart => exact ⟨0, Nat.zero_le _, rfl, rfl, Gr.refl w⟩
 case round =>
  obtain ⟨k, hk, rfl, rfl, hG⟩ := hrel
  by_cases hlt : k < n
  ·have i1 : (k : Int) < (n : Int) := by omega
   obtain ⟨b, o, rfl, hc⟩ := (HR.out.gr hG.out).at hlt
   obtain ⟨k0, k1⟩ := hc k hlt
   obtain ⟨t1, t2, t3⟩ := VS.out k hlt
   have GB := Lh (hG.out.alloc (.cells #[.string (f k), .int .i64 (g k)] 58))
   obtain ⟨z0, z1⟩ := box2 wr (f k) (g k) 58
   have LI := Lh (fun i (hi : i < (f k).size) => (isTk_at t1).2 i hi)
   have SZ := (isTk_at t1).1
   clear hc
   have BD := Lh (fun q (hq : q ≤ (f k).size) => prd_top (m := g k) HB.out t1 ⟨t2, t3⟩ hq)
   have vb := VB.out k (by omega)
   have VK := Lh (VN.out k)
   generalize f k = s at *
   generalize g k = m at *
   generalize hv : vlS l f g k = v at *
   clear hv t1 t2 t3
   go_wp2_with fail
   generalize hW : wr.alloc (.cells #[.string s, .int .i64 m] 58) = W1 at *
   generalize hX : wr.heap.size = bx at *
   clear hW hX k0 k1
   go_loopw [8, 21] (fun sn sq wx => ∃ q : Nat, q ≤ s.size ∧ sn = .int .i64 (prd l s m q) ∧ sq = .int .i64 q ∧ wx = W1) (fun _ sq _ => s.size - (intOf sq).toNat)
   case atStart => exact ⟨0, Nat.zero_le _, rfl, rfl, rfl⟩
   case round =>
    obtain ⟨q, hq, rfl, rfl, hw⟩ := hrel
    subst hw
    by_cases hlq : q < s.size
    ·have i2 : (q : Int) < (s.size : Int) := by omega
     have l1 := bt_get hlq
     have l2 := LI.out q hlq
     have b1 := BD.out q (by omega)
     have b2 := BD.out (q + 1) hlq
     have E := Lh (show prd l s m (q + 1) = prd l s m q * l (bt s q - 97) from rfl)
     rw [E.out] at b2
     generalize bt s q = x at *
     obtain ⟨y, hy⟩ : ∃ y, x = y + 97 := ⟨x - 97, by omega⟩
     have hy8 : y < 8 := by omega
     have e1 : IntKind.u8.wrap ((x : Int) - 97) = (y : Int) := by rw [IntKind.wrap_u8']; omega
     have y8 : (y : Int) < 8 := by omega
     obtain ⟨bn, on, rfl, hn⟩ := (HL.out.gr GB.out).at (show 0 < 8 by omega)
     have cn := hn y hy8
     rw [show x - 97 = y by omega] at b2 E
     generalize l y = ly at *
     generalize prd l s m q = pq at *
     have e2 : IntKind.i64.wrap (pq * ly) = pq * ly := IntWalk.i64_in _ (by omega)
     have e3 : wrap64 (pq * ly) = pq * ly := IntWalk.wrap64_in _ (by omega)
     clear b1 b2 hn hy l2
     go_wp2_with fail
     go_roundw
     case rel => exact ⟨q + 1, hlq, by rw [← E.out], by go_num, by trivial⟩
     case measure => simp [intOf]; omega
    obtain rfl : q = s.size := by omega
    have i2 : ¬ (s.size : Int) < (s.size : Int) := by omega
    have b1 := BD.out s.size (Nat.le_refl _)
    have VK2 := Lh VK.out
    clear VK
    generalize prd l s m s.size = pq at *
    have e2 : IntKind.i64.wrap (v + pq) = v + pq := IntWalk.i64_in _ (by omega)
    have e3 : wrap64 (v + pq) = v + pq := IntWalk.wrap64_in _ (by omega)
    clear b1 vb
    go_wp2_with fail
    go_roundw
    case rel => exact ⟨k + 1, hlt, by rw [← VK2.out], by go_num, GB⟩
    case measure => simp [intOf]; omega
  obtain rfl : k = n := by omega
  have i1 : ¬ (k : Int) < (k : Int) := by omega
  go_wp2_with fail
  go_ret
  exact ⟨rfl, hG.out⟩
theorem refvalue_any (a a' : Option Addr) (n c c' : Nat) (f : Nat → ByteArray) (g : Nat → Int) (l : Nat → Int) (w : World) (hS : vS f g n = true) (hr : RdS w a n f g) (hl : RdI w a' 8 l) (hb : ∀ i, i < 8 → 0 ≤ l i ∧ l i ≤ 10) :
  Calls Tryz.prog 99 #[.slice a n c, .slice a' 8 c'] w fun e w' => e = .returned (.int .i64 (vlS l f g n)) ∧ Gr w w' := by
 have HR := Lh hr
 have HL := Lh hl
 have HB := Lh hb
 have VS := Lh (fun i (hi : i < n) => (vS_at hS).2 i hi)
 have n40 := (vS_at hS).1
 have VB := Lh (fun k (hk : k ≤ n) => vlS_bd hb hS k hk)
 have VN := Lh (fun k => show vlS l f g (k + 1) = vlS l f g k + prd l (f k) (g k) (f k).size from rfl)
 clear hr hl hb hS
 go_enter Tryz.func99, Tryz.ntmps99
 go_wp2
 go_loopw [5, 12] (fun so si wr => ∃ k : Nat, k ≤ n ∧ so = .int .i64 (vlS l f g k) ∧ si = .int .i64 k ∧ Hid (Gr w wr)) (fun _ si _ => n - (intOf si).toNat)
 case atStart => exact ⟨0, Nat.zero_le _, rfl, rfl, Gr.refl w⟩
 case round =>
  obtain ⟨k, hk, rfl, rfl, hG⟩ := hrel
  by_cases hlt : k < n
  ·have i1 : (k : Int) < (n : Int) := by omega
   obtain ⟨b, o, rfl, hc⟩ := (HR.out.gr hG.out).at hlt
   obtain ⟨k0, k1⟩ := hc k hlt
   obtain ⟨t1, t2, t3⟩ := VS.out k hlt
   have GB := Lh (hG.out.alloc (.cells #[.string (f k), .int .i64 (g k)] 58))
   obtain ⟨z0, z1⟩ := box2 wr (f k) (g k) 58
   have LI := Lh (fun i (hi : i < (f k).size) => (isTk_at t1).2 i hi)
   have SZ := (isTk_at t1).1
   clear hc
   have BD := Lh (fun q (hq : q ≤ (f k).size) => prd_top (m := g k) HB.out t1 ⟨t2, t3⟩ hq)
   have vb := VB.out k (by omega)
   have VK := Lh (VN.out k)
   generalize f k = s at *
   generalize g k = m at *
   generalize hv : vlS l f g k = v at *
   clear hv t1 t2 t3
   go_wp2_with fail
   generalize hW : wr.alloc (.cells #[.string s, .int .i64 m] 58) = W1 at *
   generalize hX : wr.heap.size = bx at *
   clear hW hX k0 k1
   go_loopw [8, 21] (fun sn sq wx => ∃ q : Nat, q ≤ s.size ∧ sn = .int .i64 (prd l s m q) ∧ sq = .int .i64 q ∧ wx = W1) (fun _ sq _ => s.size - (intOf sq).toNat)
   case atStart => exact ⟨0, Nat.zero_le _, rfl, rfl, rfl⟩
   case round =>
    obtain ⟨q, hq, rfl, rfl, hw⟩ := hrel
    subst hw
    by_cases hlq : q < s.size
    ·have i2 : (q : Int) < (s.size : Int) := by omega
     have l1 := bt_get hlq
     have l2 := LI.out q hlq
     have b1 := BD.out q (by omega)
     have b2 := BD.out (q + 1) hlq
     have E := Lh (show prd l s m (q + 1) = prd l s m q * l (bt s q - 97) from rfl)
     rw [E.out] at b2
     generalize bt s q = x at *
     obtain ⟨y, hy⟩ : ∃ y, x = y + 97 := ⟨x - 97, by omega⟩
     have hy8 : y < 8 := by omega
     have e1 : IntKind.u8.wrap ((x : Int) - 97) = (y : Int) := by rw [IntKind.wrap_u8']; omega
     have y8 : (y : Int) < 8 := by omega
     obtain ⟨bn, on, rfl, hn⟩ := (HL.out.gr GB.out).at (show 0 < 8 by omega)
     have cn := hn y hy8
     rw [show x - 97 = y by omega] at b2 E
     generalize l y = ly at *
     generalize prd l s m q = pq at *
     have e2 : IntKind.i64.wrap (pq * ly) = pq * ly := IntWalk.i64_in _ (by omega)
     have e3 : wrap64 (pq * ly) = pq * ly := IntWalk.wrap64_in _ (by omega)
     clear b1 b2 hn hy l2
     go_wp2_with fail
     go_roundw
     case rel => exact ⟨q + 1, hlq, by rw [← E.out], by go_num, by trivial⟩
     case measure => simp [intOf]; omega
    obtain rfl : q = s.size := by omega
    have i2 : ¬ (s.size : Int) < (s.size : Int) := by omega
    have b1 := BD.out s.size (Nat.le_refl _)
    have VK2 := Lh VK.out
    clear VK
    generalize prd l s m s.size = pq at *
    have e2 : IntKind.i64.wrap (v + pq) = v + pq := IntWalk.i64_in _ (by omega)
    have e3 : wrap64 (v + pq) = v + pq := IntWalk.wrap64_in _ (by omega)
    clear b1 vb
    go_wp2_with fail
    go_roundw
    case rel => exact ⟨k + 1, hlt, by rw [← VK2.out], by go_num, GB⟩
    case measure => simp [intOf]; omega
  obtain rfl : k = n := by omega
  have i1 : ¬ (k : Int) < (k : Int) := by omega
  go_wp2_with fail
  go_ret
  exact ⟨rfl, hG.out⟩
theorem cost_any (a a' : Option Addr) (n c c' : Nat) (f : Nat → ByteArray) (g : Nat → Int) (l : Nat → Int) (w : World) (hp : 1 ≤ n) (hS : vS f g n = true) (hr : RdS w a n f g) (hl : RdI w a' 8 l) (hb : ∀ i, i < 8 → 0 ≤ l i ∧ l i ≤ 1000) :
  Calls Tryz.prog 50 #[.slice a n c, .slice a' 8 c'] w fun e w' => e = .returned (.int .i64 (mnR (csP l f) n)) ∧ Gr w w' := by
 have HR := Lh hr
 have HL := Lh hl
 have HB := Lh hb
 have VS := Lh (fun i (hi : i < n) => (vS_at hS).2 i hi)
 have n40 := (vS_at hS).1
 clear hr hl hb hS
 go_enter Tryz.func50, Tryz.ntmps50
 go_wp2
 go_loopw [5, 12] (fun so si wr => ∃ k : Nat, k ≤ n ∧ si = .int .i64 k ∧ Hid (OwnI w 3 wr so k (csP l f))) (fun _ si _ => n - (intOf si).toNat)
 case atStart => exact ⟨0, Nat.zero_le _, rfl, Lh (OwnI.nil w 3 _)⟩
 case round =>
  obtain ⟨k, hk, rfl, hO⟩ := hrel
  have hG := Lh hO.out.2
  by_cases hlt : k < n
  ·have i1 : (k : Int) < (n : Int) := by omega
   obtain ⟨b, o, rfl, hc⟩ := (HR.out.gr hG.out).at hlt
   obtain ⟨k0, k1⟩ := hc k hlt
   obtain ⟨t1, t2, t3⟩ := VS.out k hlt
   have GB := Lh (hG.out.alloc (.cells #[.string (f k), .int .i64 (g k)] 58))
   obtain ⟨z0, z1⟩ := box2 wr (f k) (g k) 58
   have LI := Lh (fun i (hi : i < (f k).size) => (isTk_at t1).2 i hi)
   have SZ := (isTk_at t1).1
   clear hc
   have BD := Lh (fun q (hq : q ≤ (f k).size) => show 0 ≤ csm l (f k) q ∧ csm l (f k) q ≤ 1000000 from by have := csm_bd HB.out t1 q hq; omega)
   have CK := Lh (show csP l f k = csm l (f k) (f k).size from rfl)
   have OB := Lh (hO.out.alloc (.cells #[.string (f k), .int .i64 (g k)] 58))
   have KK := Lh (show k < 1000000000 by omega)
   generalize f k = s at *
   generalize g k = m at *
   clear t1 t2 t3
   go_wp2_with fail
   generalize hW : wr.alloc (.cells #[.string s, .int .i64 m] 58) = W1 at *
   generalize hX : wr.heap.size = bx at *
   clear hW hX k0 k1
   go_loopw [8, 19] (fun sn sq wx => ∃ q : Nat, q ≤ s.size ∧ sn = .int .i64 (csm l s q) ∧ sq = .int .i64 q ∧ wx = W1) (fun _ sq _ => s.size - (intOf sq).toNat)
   case atStart => exact ⟨0, Nat.zero_le _, rfl, rfl, rfl⟩
   case round =>
    obtain ⟨q, hq, rfl, rfl, hw⟩ := hrel
    subst hw
    by_cases hlq : q < s.size
    ·have i2 : (q : Int) < (s.size : Int) := by omega
     have l1 := bt_get hlq
     have l2 := LI.out q hlq
     have b1 := BD.out q (by omega)
     have b2 := BD.out (q + 1) hlq
     have E := Lh (show csm l s (q + 1) = csm l s q + l (bt s q - 97) from rfl)
     rw [E.out] at b2
     generalize bt s q = x at *
     obtain ⟨y, hy⟩ : ∃ y, x = y + 97 := ⟨x - 97, by omega⟩
     have hy8 : y < 8 := by omega
     have e1 : IntKind.u8.wrap ((x : Int) - 97) = (y : Int) := by rw [IntKind.wrap_u8']; omega
     have y8 : (y : Int) < 8 := by omega
     obtain ⟨bn, on, rfl, hn⟩ := (HL.out.gr GB.out).at (show 0 < 8 by omega)
     have cn := hn y hy8
     rw [show x - 97 = y by omega] at b2 E
     generalize l y = ly at *
     generalize csm l s q = pq at *
     have e2 : IntKind.i64.wrap (pq + ly) = pq + ly := IntWalk.i64_in _ (by omega)
     have e3 : wrap64 (pq + ly) = pq + ly := IntWalk.wrap64_in _ (by omega)
     clear b1 b2 hn hy l2
     go_wp2_with fail
     go_roundw
     case rel => exact ⟨q + 1, hlq, by rw [← E.out], by go_num, by trivial⟩
     case measure => simp [intOf]; omega
    obtain rfl : q = s.size := by omega
    have i2 : ¬ (s.size : Int) < (s.size : Int) := by omega
    clear LI BD
    rw [← CK.out]
    generalize hz : csP l f k = z at *
    have CZ := Lh hz
    clear hz CK
    go_wp2_with (at_builtin; go_must (refine wpList_app_int rfl _ _ 23 3 rfl Tryz.underlying23 Tryz.info3 _ _ _ rfl (OB.out.alloc _) _ _ rfl (cell_new1 _ _ _) CZ.out KK.out ?_); intro v1 w4 hown1 _)
    go_roundw
    case rel => exact ⟨k + 1, hlt, by go_num, Lh hown1⟩
    case measure => simp [intOf]; omega
  obtain rfl : k = n := by omega
  have i1 : ¬ (k : Int) < (k : Int) := by omega
  obtain ⟨ao, co, rfl, h1, h2, h3⟩ := hO.out.rd
  obtain ⟨bo, oo, rfl, hcx⟩ := h3.at (show 0 < k by omega)
  have C := Lh (show Calls Tryz.prog 77 #[.slice (some ⟨bo, oo, none⟩) k co] wr fun e w' => e = .returned (.int .i64 (Lib.minOf (((List.range k).map (csP l f)).take k))) ∧ w' = wr from Any.slices_Min_int Tryz.min114 bo oo k co ((List.range k).map (csP l f)) wr hp (by simp) (by omega) (fun j hj => by
   have hj' : j < k := by simpa using hj
   rw [hcx j hj']
   simp [List.getD_eq_getElem?_getD, hj']))
  have EM := Lh (show Lib.minOf (((List.range k).map (csP l f)).take k) = mnR (csP l f) k by
   obtain ⟨j, rfl⟩ : ∃ j, k = j + 1 := ⟨k - 1, by omega⟩
   rw [List.take_of_length_le (by simp), mnR_min])
  clear hcx h1 h2 h3
  go_wp2_with (go_at_call 77; (with_reducible refine C.out.mono ?_); rintro e w5 ⟨rfl, hw5⟩)
  go_ret
  subst hw5
  exact ⟨by first | rfl | (rw [← EM.out]; rfl) | exact congrArg (fun x => Ending.returned (Value.int .i64 x)) EM.out, hG.out⟩
theorem refcost_any (a a' : Option Addr) (n c c' : Nat) (f : Nat → ByteArray) (g : Nat → Int) (l : Nat → Int) (w : World) (hS : vS f g n = true) (hr : RdS w a n f g) (hl : RdI w a' 8 l) (hb : ∀ i, i < 8 → 0 ≤ l i ∧ l i ≤ 1000) :
  Calls Tryz.prog 71 #[.slice a n c, .slice a' 8 c'] w fun e w' => e = .returned (.int .i64 (mnR (csP l f) n)) ∧ Gr w w' := by
 have HR := Lh hr
 have HL := Lh hl
 have HB := Lh hb
 have VS := Lh (fun i (hi : i < n) => (vS_at hS).2 i hi)
 have n40 := (vS_at hS).1
 clear hr hl hb hS
 go_enter Tryz.func71, Tryz.ntmps71
 go_wp2
 go_loopw [5, 12] (fun so si wr => ∃ k : Nat, k ≤ n ∧ so = .int .i64 (mnR (csP l f) k) ∧ si = .int .i64 k ∧ Hid (Gr w wr)) (fun _ si _ => n - (intOf si).toNat)
 case atStart => exact ⟨0, Nat.zero_le _, rfl, rfl, Gr.refl w⟩
 case round =>
  obtain ⟨k, hk, rfl, rfl, hG⟩ := hrel
  by_cases hlt : k < n
  ·have i1 : (k : Int) < (n : Int) := by omega
   obtain ⟨b, o, rfl, hc⟩ := (HR.out.gr hG.out).at hlt
   obtain ⟨k0, k1⟩ := hc k hlt
   obtain ⟨t1, t2, t3⟩ := VS.out k hlt
   have GB := Lh (hG.out.alloc (.cells #[.string (f k), .int .i64 (g k)] 58))
   obtain ⟨z0, z1⟩ := box2 wr (f k) (g k) 58
   have LI := Lh (fun i (hi : i < (f k).size) => (isTk_at t1).2 i hi)
   have SZ := (isTk_at t1).1
   clear hc
   have BD := Lh (fun q (hq : q ≤ (f k).size) => show 0 ≤ csm l (f k) q ∧ csm l (f k) q ≤ 1000000 from by have := csm_bd HB.out t1 q hq; omega)
   have CK := Lh (show csP l f k = csm l (f k) (f k).size from rfl)
   have MK := Lh (show mnR (csP l f) (k + 1) = if k = 0 ∨ csP l f k < mnR (csP l f) k then csP l f k else mnR (csP l f) k from rfl)
   generalize f k = s at *
   generalize g k = m at *
   generalize mnR (csP l f) k = mk at *
   clear t1 t2 t3
   go_wp2_with fail
   generalize hW : wr.alloc (.cells #[.string s, .int .i64 m] 58) = W1 at *
   generalize hX : wr.heap.size = bx at *
   clear hW hX k0 k1
   go_loopw [8, 20] (fun sn sq wx => ∃ q : Nat, q ≤ s.size ∧ sn = .int .i64 (csm l s q) ∧ sq = .int .i64 q ∧ wx = W1) (fun _ sq _ => s.size - (intOf sq).toNat)
   case atStart => exact ⟨0, Nat.zero_le _, rfl, rfl, rfl⟩
   case round =>
    obtain ⟨q, hq, rfl, rfl, hw⟩ := hrel
    subst hw
    by_cases hlq : q < s.size
    ·have i2 : (q : Int) < (s.size : Int) := by omega
     have l1 := bt_get hlq
     have l2 := LI.out q hlq
     have b1 := BD.out q (by omega)
     have b2 := BD.out (q + 1) hlq
     have E := Lh (show csm l s (q + 1) = csm l s q + l (bt s q - 97) from rfl)
     rw [E.out] at b2
     generalize bt s q = x at *
     obtain ⟨y, hy⟩ : ∃ y, x = y + 97 := ⟨x - 97, by omega⟩
     have hy8 : y < 8 := by omega
     have e1 : IntKind.u8.wrap ((x : Int) - 97) = (y : Int) := by rw [IntKind.wrap_u8']; omega
     have y8 : (y : Int) < 8 := by omega
     obtain ⟨bn, on, rfl, hn⟩ := (HL.out.gr GB.out).at (show 0 < 8 by omega)
     have cn := hn y hy8
     rw [show x - 97 = y by omega] at b2 E
     generalize l y = ly at *
     generalize csm l s q = pq at *
     have e2 : IntKind.i64.wrap (pq + ly) = pq + ly := IntWalk.i64_in _ (by omega)
     have e3 : wrap64 (pq + ly) = pq + ly := IntWalk.wrap64_in _ (by omega)
     clear b1 b2 hn hy l2
     go_wp2_with fail
     go_roundw
     case rel => exact ⟨q + 1, hlq, by rw [← E.out], by go_num, by trivial⟩
     case measure => simp [intOf]; omega
    obtain rfl : q = s.size := by omega
    have i2 : ¬ (s.size : Int) < (s.size : Int) := by omega
    clear LI BD
    rw [← CK.out]
    generalize csP l f k = z at *
    clear CK
    by_cases h0 : k = 0
    ·have E2 := Lh (MK.out.trans (if_pos (.inl h0)))
     have c0 : ((k : Int) == 0) = true := by simp [h0]
     clear MK h0
     go_wp2_with fail
     go_roundw
     case rel => exact ⟨k + 1, hlt, by rw [E2.out], by go_num, GB⟩
     case measure => simp [intOf]; omega
    have c0 : ((k : Int) == 0) = false := by simp; omega
    by_cases h1 : z < mk
    ·have E2 := Lh (MK.out.trans (if_pos (.inr h1)))
     clear MK h0
     go_wp2_with fail
     go_roundw
     case rel => exact ⟨k + 1, hlt, by rw [E2.out], by go_num, GB⟩
     case measure => simp [intOf]; omega
    have E2 := Lh (MK.out.trans (if_neg (fun h => h.elim h0 h1)))
    clear MK h0
    go_wp2_with fail
    go_roundw
    case rel => exact ⟨k + 1, hlt, by rw [E2.out], by go_num, GB⟩
    case measure => simp [intOf]; omega
  obtain rfl : k = n := by omega
  have i1 : ¬ (k : Int) < (k : Int) := by omega
  go_wp2_with fail
  go_ret
  exact ⟨rfl, hG.out⟩
theorem within1_any (x B : Int) (bx : Nat) (w : World) (hb : w.cell? ⟨bx, 0, none⟩ = some (.int .i64 B)) : Calls Tryz.prog 76 #[.int .i64 x, .pointer (some ⟨bx, 0, none⟩)] w fun e w' => e = .returned (.bool (!btw 0 x B)) ∧ w' = w := by
 have C := Lh (fun w' => between_any 0 x B w')
 go_enter Tryz.func76, Tryz.ntmps76
 go_wp2_with (go_at_call 56; (with_reducible refine (C.out _).mono ?_); rintro e w1 ⟨rfl, rfl⟩)
 go_ret
 exact ⟨rfl, rfl⟩
theorem within_any (a : Option Addr) (n c : Nat) (l : Nat → Int) (B : Int) (w : World) (hn : n ≤ 9223372036854775807) (hr : RdI w a n l) :
  Calls Tryz.prog 41 #[.slice a n c, .int .i64 B] w (RetB (nmB l n B) w) := by
 have G0 := Lh ((Gr.refl w).alloc (.cells #[.int .i64 B] 3))
 have hmf : ∀ (fn : Fn) (first cap : Array Value) (w : World), (Instr.makeFunc fn first cap).run Tryz.prog w = .ok (.func fn first cap) w := fun _ _ _ _ => rfl
 by_cases h8 : n = 8
 ·subst h8
  obtain ⟨b, o, rfl, hc⟩ := hr.at (show 0 < 8 by omega)
  have hb := cell_new1 w (.int .i64 B) 3
  have CC := Lh (show Calls Tryz.prog 75 #[.slice (some ⟨b, o, none⟩) 8 c, .func (.func 76) #[] #[.pointer (some ⟨w.heap.size, 0, none⟩)]] (w.alloc (.cells #[.int .i64 B] 3)) fun e w' => e = .returned (.bool ((((List.range 8).map l).take 8).any fun x => !btw 0 x B)) ∧ ∃ q, w' = (w.alloc (.cells #[.int .i64 B] 3)).drewN q from AnyE.slices_ContainsFunc Tryz.cont8 (Value.int .i64) (fun x => !btw 0 x B) 76 #[.pointer (some ⟨w.heap.size, 0, none⟩)] (enters_of Tryz.func76 (by kernel_rfl) rfl) b o 8 c ((List.range 8).map l) (w.alloc (.cells #[.int .i64 B] 3))
   (fun W x k => by
    refine (within1_any x B w.heap.size W (Gr.cell k hb)).mono ?_
    rintro e w' ⟨rfl, rfl⟩
    exact ⟨rfl, 0, rfl⟩) (by simp) (by omega) (fun j hj => by
    have hj' : j < 8 := by simpa using hj
    rw [G0.out.cell (hc j hj')]
    simp [hj']))
  have E := Lh (show (!((((List.range 8).map l).take 8).any fun x => !btw 0 x B)) = nmB l 8 B by
   unfold nmB nmK
   rw [List.take_of_length_le (by simp)]
   rw [Bool.eq_iff_iff]
   simp)
  clear hc hr
  generalize ((((List.range 8).map l).take 8).any fun x => !btw 0 x B) = v at *
  generalize nmB l 8 B = nm at *
  go_enter Tryz.func41, Tryz.ntmps41
  go_wp2_with (go_at_call 75; (with_reducible refine CC.out.mono ?_); rintro e w1 ⟨rfl, q, rfl⟩)
  go_ret
  exact ⟨by rw [← E.out]; rfl, G0.out.drewN _⟩
 have E := Lh (show nmB l n B = false by unfold nmB; rw [decide_eq_false h8]; simp)
 have z1 : ((n : Int) == 8) = false := by simp; omega
 clear h8
 go_enter Tryz.func41, Tryz.ntmps41
 go_wp2_with fail
 go_ret
 rw [E.out]
 exact ⟨rfl, G0.out⟩
theorem AreNumbers_any (a : Option Addr) (n c : Nat) (l : Nat → Int) (B : Int) (w : World) (hn : n ≤ 9223372036854775807) (hr : RdI w a n l) :
  Calls Tryz.prog 30 #[.slice a n c, .int .i64 B] w (RetB (nmB l n B) w) := by
 have HR := Lh hr
 clear hr
 go_enter Tryz.func30, Tryz.ntmps30
 go_wp2
 go_loopw [9] (fun si wr => ∃ k : Nat, k ≤ n ∧ si = .int .i64 k ∧ Hid (nmK l B k = true) ∧ wr = w) (fun si _ => n - (intOf si).toNat)
 case atStart => exact ⟨0, Nat.zero_le _, rfl, nmK_zero l B, rfl⟩
 case round =>
  obtain ⟨k, hk, rfl, hK, hw⟩ := hrel
  subst hw
  by_cases hlt : k < n
  ·have i1 : (k : Int) < (n : Int) := by omega
   obtain ⟨b, o, rfl, hc⟩ := HR.out.at hlt
   have ck := hc k hlt
   have KS := Lh (show btw 0 (l k) B = true → nmK l B (k + 1) = true from fun h => by rw [nmK_succ, hK.out, h]; rfl)
   have KF := Lh (show btw 0 (l k) B = false → nmB l n B = false from fun h => by unfold nmB; rw [nmK_stop hlt h]; rfl)
   clear hc
   generalize l k = x at *
   by_cases h1 : x < 0
   ·have F := Lh (KF.out (by unfold btw; rw [decide_eq_false (by omega)]; rfl))
    go_wp2_with fail
    go_ret
    rw [F.out]
    exact ⟨rfl, Gr.refl _⟩
   by_cases h2 : B < x
   ·have F := Lh (KF.out (by unfold btw; rw [decide_eq_false (show ¬ x ≤ B by omega)]; simp))
    go_wp2_with fail
    go_ret
    rw [F.out]
    exact ⟨rfl, Gr.refl _⟩
   have F := Lh (KS.out (by unfold btw; rw [decide_eq_true (show 0 ≤ x by omega), decide_eq_true (show x ≤ B by omega)]; rfl))
   go_wp2_with fail
   go_roundw
   case rel => exact ⟨k + 1, hlt, by go_num, F, by trivial⟩
   case measure => simp [intOf]; omega
  obtain rfl : k = n := by omega
  have i1 : ¬ (k : Int) < (k : Int) := by omega
  have E := Lh (show nmB l k B = ((k : Int) == 8) by unfold nmB; rw [hK.out, Bool.true_and, Bool.eq_iff_iff]; simp; omega)
  go_wp2_with fail
  go_ret
  rw [E.out]
  exact ⟨rfl, Gr.refl _⟩
def RetNE (t E : Int) (w : World) (e : Ending) (w' : World) : Prop := e = .returned (.tuple #[.int .i64 t, .int .i64 E]) ∧ Gr w w'
def VlN (f : Nat → ByteArray) (g : Nat → Int) (n : Nat) (l : Nat → Int) (m : Nat) : Int := if vS f g n = true then (if nmB l m 10 = true then vlS l f g n else 0) else 0
def VlE (f : Nat → ByteArray) (g : Nat → Int) (n : Nat) (l : Nat → Int) (m : Nat) : Int := if vS f g n = true then (if nmB l m 10 = true then 0 else 2) else 92
theorem Value_any (a a' : Option Addr) (n c m c' : Nat) (f : Nat → ByteArray) (g : Nat → Int) (l : Nat → Int) (w : World) (hn : n ≤ 9223372036854775807) (hz : ∀ i, i < n → (f i).size ≤ 9223372036854775807) (hm : m ≤ 9223372036854775807) (hr : RdS w a n f g) (hl : RdI w a' m l) :
  Calls Tryz.prog 32 #[.slice a n c, .slice a' m c'] w (RetNE (VlN f g n l m) (VlE f g n l m) w) := by
 have C1 := Lh (fun w1 (k : Gr w w1) => ValidSum_any a n c f g w1 hn hz (hr.gr k))
 have C2 := Lh (fun w1 (k : Gr w w1) => within_any a' m c' l 10 w1 hm (hl.gr k))
 cases h1 : vS f g n with
 | false =>
  have e1 : VlN f g n l m = 0 := by unfold VlN; rw [h1]; rfl
  have e2 : VlE f g n l m = 92 := by unfold VlE; rw [h1]; rfl
  rw [e1, e2]
  rw [h1] at C1
  clear e1 e2 h1 hr hl hz
  go_enter Tryz.func32, Tryz.ntmps32
  go_wp2_with (go_at_call 68; (with_reducible refine (C1.out _ (Gr.refl _)).mono ?_); rintro e w1 ⟨rfl, g1⟩; have G1 := Lh g1; clear g1)
  exact bodyPost_ret (v := .tuple #[.int .i64 0, .int .i64 92]) (by simp [results, Tryz.results32, go_sem]) rfl ⟨rfl, G1.out⟩
 | true =>
  cases h2 : nmB l m 10 with
  | false =>
   have e1 : VlN f g n l m = 0 := by unfold VlN; rw [h1, h2]; rfl
   have e2 : VlE f g n l m = 2 := by unfold VlE; rw [h1, h2]; rfl
   rw [e1, e2]
   rw [h1] at C1
   rw [h2] at C2
   clear e1 e2 h1 h2 hr hl hz
   go_enter Tryz.func32, Tryz.ntmps32
   go_wp2_with (first
    | (go_at_call 68; (with_reducible refine (C1.out _ (Gr.refl _)).mono ?_); rintro e w1 ⟨rfl, g1⟩; have G1 := Lh g1; clear g1)
    | (go_at_call 41; (with_reducible refine (C2.out _ G1.out).mono ?_); rintro e w2 ⟨rfl, g2⟩; have G2 := Lh (G1.out.trans g2); clear g2))
   exact bodyPost_ret (v := .tuple #[.int .i64 0, .int .i64 2]) (by simp [results, Tryz.results32, go_sem]) rfl ⟨rfl, G2.out⟩
  | true =>
   obtain ⟨rfl, hb⟩ := nmB_at h2
   have e1 : VlN f g n l 8 = vlS l f g n := by unfold VlN; rw [h1, h2]; rfl
   have e2 : VlE f g n l 8 = 0 := by unfold VlE; rw [h1, h2]; rfl
   have C3 := Lh (fun w1 (k : Gr w w1) => value_any a a' n c c' f g l w1 h1 (hr.gr k) (hl.gr k) hb)
   rw [e1, e2]
   rw [h1] at C1
   rw [h2] at C2
   clear e1 e2 h1 h2 hr hl hz hb
   generalize vlS l f g n = v at *
   go_enter Tryz.func32, Tryz.ntmps32
   go_wp2_with (first
    | (go_at_call 68; (with_reducible refine (C1.out _ (Gr.refl _)).mono ?_); rintro e w1 ⟨rfl, g1⟩; have G1 := Lh g1; clear g1)
    | (go_at_call 41; (with_reducible refine (C2.out _ G1.out).mono ?_); rintro e w2 ⟨rfl, g2⟩; have G2 := Lh (G1.out.trans g2); clear g2)
    | (go_at_call 43; (with_reducible refine (C3.out _ G2.out).mono ?_); rintro e w3 ⟨rfl, g3⟩; have G3 := Lh (G2.out.trans g3); clear g3))
   exact bodyPost_ret (v := .tuple #[.int .i64 v, .int .i64 0]) (by simp [results, Tryz.results32, go_sem]) rfl ⟨rfl, G3.out⟩
def awF (i : Nat) : ByteArray := ([⟨#[97]⟩, ⟨#[97, 98]⟩, ⟨#[98, 99]⟩] : List ByteArray).getD i ByteArray.empty
def awG (i : Nat) : Int := ([2, 1, 1] : List Int).getD i 0
theorem Awake_any (w : World) : Calls Tryz.prog 11 #[] w (RetB true w) := by
 have E1 : VlN awF awG 3 (fun _ => 1) 8 = 4 := by decide +kernel
 have E2 : VlE awF awG 3 (fun _ => 1) 8 = 0 := by decide +kernel
 obtain ⟨W1, hW1⟩ : ∃ W1, (w.alloc (.cells #[.string ⟨#[97]⟩, .int .i64 2, .string ⟨#[97, 98]⟩, .int .i64 1, .string ⟨#[98, 99]⟩, .int .i64 1] 58)).alloc (.cells #[.int .i64 1, .int .i64 1, .int .i64 1, .int .i64 1, .int .i64 1, .int .i64 1, .int .i64 1, .int .i64 1] 3) = W1 := ⟨_, rfl⟩
 have G1 := Lh (show Gr w W1 by rw [← hW1]; exact ((Gr.refl w).alloc _).alloc _)
 have C := Lh (Value_any (some ⟨w.heap.size, 0, none⟩) (some ⟨w.heap.size + 1, 0, none⟩) 3 3 8 8 awF awG (fun _ => 1) W1 (by omega) (fun i hi => by
   match i, hi with
   | 0, _ => decide
   | 1, _ => decide
   | 2, _ => decide) (by omega)
  (.inr ⟨w.heap.size, 0, rfl, fun i hi => by
   rw [← hW1]
   match i, hi with
   | 0, _ => exact ⟨(((Gr.refl _).alloc _).fresh' rfl rfl).1, (((Gr.refl _).alloc _).fresh' rfl rfl).1⟩
   | 1, _ => exact ⟨(((Gr.refl _).alloc _).fresh' rfl rfl).1, (((Gr.refl _).alloc _).fresh' rfl rfl).1⟩
   | 2, _ => exact ⟨(((Gr.refl _).alloc _).fresh' rfl rfl).1, (((Gr.refl _).alloc _).fresh' rfl rfl).1⟩⟩)
  (.inr ⟨w.heap.size + 1, 0, rfl, fun i hi => by
   rw [← hW1]
   have hs : (w.alloc (.cells #[.string ⟨#[97]⟩, .int .i64 2, .string ⟨#[97, 98]⟩, .int .i64 1, .string ⟨#[98, 99]⟩, .int .i64 1] 58)).heap.size = w.heap.size + 1 := by simp
   match i, hi with
   | 0, _ => exact ((Gr.refl _).fresh' hs rfl).1
   | 1, _ => exact ((Gr.refl _).fresh' hs rfl).1
   | 2, _ => exact ((Gr.refl _).fresh' hs rfl).1
   | 3, _ => exact ((Gr.refl _).fresh' hs rfl).1
   | 4, _ => exact ((Gr.refl _).fresh' hs rfl).1
   | 5, _ => exact ((Gr.refl _).fresh' hs rfl).1
   | 6, _ => exact ((Gr.refl _).fresh' hs rfl).1
   | 7, _ => exact ((Gr.refl _).fresh' hs rfl).1⟩))
 rw [E1, E2] at C
 clear E1 E2
 go_enter Tryz.func11, Tryz.ntmps11
 go_wp2_with (go_at_call 32; (with_reducible refine C.out.mono ?_); rintro e w1 ⟨rfl, g1⟩)
 go_ret
 exact ⟨rfl, G1.out.trans g1⟩
end Go.Proofs.YtehdemcfeoiecaaGreatDoor
namespace Go.Firn
open Go.RowKit
variable {F : Fence} {n : Nat} {P : Program}
end Go.Firn
namespace Go.Firn
open Go.RowKit
variable {F : Fence} {n : Nat} {P : Program}
def SeqW {α : Type} (F : Fence) (n : Nat) (P : Program) (g : Nat) (lb : Array Value) (encs : α → Array Value) (Kp Wb : World → World → Prop) (Px : α → Prop) (S Sp : List α → Prop) (N : Nat) (w : World) : Prop :=
 ∀ (l : Nat) (J Jx : List α → World → Prop) (W : World), Below w.heap.size w W → AbidesFrom W.heap.size J → (∀ pre A B, J pre A → Wb A B → J pre B) → AbidesFrom W.heap.size Jx →
  (∀ pre x W1, J pre W1 → Px x → pre.length < N → YieldAt F (n - 1) P l (encs x) W1 fun e W' =>
   (e = .returned (.bool true) ∧ J (pre ++ [x]) W' ∧ Kp W1 W') ∨ (e = .returned (.bool false) ∧ Jx (pre ++ [x]) W')) →
  J [] W →
  CallsIn F n P g (#[.func (.yield l) #[] #[]] ++ lb) W fun e W' => (∃ v, e = .returned v) ∧ ((∃ xs, S xs ∧ J xs W') ∨ (∃ pre, Sp pre ∧ Jx pre W'))
theorem rangeFunc_wr {α : Type} {g : Operand} {ps : Array Tmp} {assign body : Code} {Q : Exit → Act → World → Prop} {a : Act} {w : World}
  (hro : F.round = none) (h1 : 1 ≤ n) {gf : Nat} {lb : Array Value} (hg : a.eval g = .func (.func gf) #[] lb) (hFg : F.fn gf) (eg : ∀ args w, (callFunc gf args).run P w = .ok (.enter gf args) w)
  {encs : α → Array Value} {Kp Wb : World → World → Prop} {Px : α → Prop} {S Sp : List α → Prop} {N : Nat} {w0 : World} (hseq : SeqW F (n - 1) P gf lb encs Kp Wb Px S Sp N w0)
  (hKt : ∀ {A B C : World}, Kp A B → Kp B C → Kp A C) (hKb : ∀ (W : World) (l : Nat) (o o' : Obj), w.heap.size ≤ l → W.heap[l]? = some o → o.isCells = false → o.isWalk = false → Kp W (W.putObj l o'))
  (hWb : ∀ A B, Wb A B → ∀ (k : Nat) (o : Obj), A.heap[k]? = some o → o.isCells = false → B.heap[k]? = some o)
  (hb0 : Below w0.heap.size w0 w) (hps : ∀ x, (encs x).size = ps.size)
  (I : List α → World → Prop) (Ix : Code → List α → World → Prop) (hI : OwnFrom w.heap.size I) (hIW : ∀ pre A B, I pre A → Wb A B → I pre B) (hIx : ∀ c, OwnFrom w.heap.size (Ix c)) (h0 : I [] w) (a₁ : α → Act)
  (hassign : ∀ (l : Nat) (x : α) (W : World) (K : Act → World → Prop), K (a₁ x) W →
   assign.wpIn (F.inRound l) (n - 1 - 1) P (Exit.then K (fun _ _ _ => False)) { tmps := (ps.zip (encs x)).foldl (fun t (p, v) => t.setIfInBounds p v) a.tmps, defers := [] } W)
  (hbody : ∀ (l : Nat) (pre : List α) (x : α) (W : World), I pre W → Px x → pre.length < N → body.wpIn (F.inRound l) (n - 1 - 1) P (ownPostK Kp I Ix (pre ++ [x]) W) (a₁ x) W)
  (hdone : ∀ (D : Nat) (xs : List α) (W : World), w.heap.size ≤ D → S xs → I xs W → W.heap[D]? = some (.deferred (some [])) → Q .normal { a with defers := { target := .collected D, args := #[] } :: a.defers } W)
  (hstop : ∀ (D : Nat) (c : Code) (pre : List α) (W : World), w.heap.size ≤ D → Sp pre → Ix c pre W → W.heap[D]? = some (.deferred (some [])) → c.wpIn F n P Q { a with defers := { target := .collected D, args := #[] } :: a.defers } W) :
  (Code.rangeFunc g ps assign body).wpIn F n P Q a w := by
 refine wpIn_rangeFunc ?_
 intro fn hfn
 rw [hro]
 obtain ⟨rec, hrec⟩ : ∃ rec : LoopState → Option Code → Loop, rec = fun st pe => { state := st, pending := pe, fn, tmps := a.tmps, params := ps, assign, body, defers := w.heap.size } := ⟨_, rfl⟩
 obtain ⟨W1, hW1⟩ : ∃ W1, (w.alloc (.deferred (some []))).alloc (.loop (rec .ready none)) = W1 := ⟨_, rfl⟩
 have loop0 : W1.heap[w.heap.size + 1]? = some (.loop (rec .ready none)) := by
  rw [← hW1]
  have := World.alloc_heap_new (w.alloc (.deferred (some []))) (.loop (rec .ready none))
  rwa [World.size_alloc] at this
 have defs0 : W1.heap[w.heap.size]? = some (.deferred (some [])) := by
  rw [← hW1]
  exact (Below.heap_alloc _ _ _ (by simp)).trans (World.alloc_heap_new w _)
 have inv0 : I [] W1 := by rw [← hW1]; exact hI.alloc _ (hI.alloc _ h0)
 have bel0 : Below w0.heap.size w0 W1 := by
  rw [← hW1]
  exact hb0.trans ((((Below.refl _ w).alloc (Nat.le_refl _) _).alloc (by simp) _).mono hb0.size)
 refine ⟨w.heap.size + 1, [{ target := .collected w.heap.size, args := #[] }], W1, { target := .fn (.func gf) lb, args := #[.func (.yield (w.heap.size + 1)) #[] #[]] }, W1, gf,
  #[.func (.yield (w.heap.size + 1)) #[] #[]] ++ lb, W1, ?_, ?_, ?_, ?_, fun _ => h1, ?_⟩
 ·rw [← hW1, hrec]; exact run_enterLoop_outer _ _ _ _ _
 ·simp only [resolve, hg]
  simp [go_sem]
 ·intro f' hf'; simp [Target.leads] at hf'; subst hf'; exact hFg
 ·simp [invoke, go_sem, eg]
 have turn : ∀ {A B : World} {row : Option Nat}, (∀ r, row = some r → W1.heap.size ≤ r ∧ ∃ o : Obj, A.heap[r]? = some o ∧ o.isWalk = true) → (∀ r, row = some r → w.heap.size ≤ r ∧ ∃ o : Obj, A.heap[r]? = some o ∧ o.isCells = false) :=
  fun hr r e => by obtain ⟨hB, o, ho, hw⟩ := hr r e; exact ⟨by rw [← hW1] at hB; simp at hB; omega, o, ho, Obj.not_cells_of_walk hw⟩
 refine (hseq (w.heap.size + 1)
  (fun pre W => I pre W ∧ W.heap[w.heap.size + 1]? = some (.loop (rec .ready none)) ∧ W.heap[w.heap.size]? = some (.deferred (some [])))
  (fun pre W => ∃ c, Ix c pre W ∧ W.heap[w.heap.size + 1]? = some (.loop (rec .done (some c))) ∧ W.heap[w.heap.size]? = some (.deferred (some [])))
  W1 bel0
  (fun s A B row hs hg' hr => ⟨hI s A B row hs.1 hg' (turn (B := B) hr), (grownBy_keeps hg' (fun r e => (hr r e).2) hs.2.1 rfl).trans hs.2.1, (grownBy_keeps hg' (fun r e => (hr r e).2) hs.2.2 rfl).trans hs.2.2⟩)
  (fun pre A B hs hw => ⟨hIW pre A B hs.1 hw, hWb A B hw _ _ hs.2.1 rfl, hWb A B hw _ _ hs.2.2 rfl⟩)
  (fun s A B row hs hg' hr => by
   obtain ⟨c, hc, hl, hk⟩ := hs
   exact ⟨c, hIx c s A B row hc hg' (turn (B := B) hr), (grownBy_keeps hg' (fun r e => (hr r e).2) hl rfl).trans hl, (grownBy_keeps hg' (fun r e => (hr r e).2) hk rfl).trans hk⟩)
  ?_ ⟨inv0, loop0, defs0⟩).mono ?_
 ·rintro pre x W ⟨hi, hl, hk⟩ hpx hlen
  have hlt : w.heap.size + 1 < W.heap.size := (Array.getElem?_eq_some_iff.1 hl).1
  have hy := run_yield (P := P) (args := encs x) hl (by rw [hrec]; exact hps x)
  rw [hrec] at hy
  refine ⟨fn, _, assign, body, hy, roundIn_of_wpIn hfn (hassign _ x W _ ⟨_, run_beginRound hl (by rw [hrec]), ?_⟩)⟩
  have hl2 : (W.putObj (w.heap.size + 1) (.loop { rec .ready none with state := .busy })).heap[w.heap.size + 1]? = some (.loop { rec .ready none with state := .busy }) := World.putObj_heap_same hlt
  have hk2 : (W.putObj (w.heap.size + 1) (.loop { rec .ready none with state := .busy })).heap[w.heap.size]? = some (.deferred (some [])) := (World.putObj_heap_other (by omega)).trans hk
  have hw2 : Kp W (W.putObj (w.heap.size + 1) (.loop { rec .ready none with state := .busy })) := hKb _ _ _ _ (by omega) hl rfl rfl
  refine wpIn_mono (hbody _ pre x _ (hI.putObj _ hi (by omega) hl rfl) hpx hlen) ?_
  have fin : ∀ (jump : Option Code) (W3 : World), KeepsOthers (W.putObj (w.heap.size + 1) (.loop { rec .ready none with state := .busy })) W3 →
    (Instr.endRound (w.heap.size + 1) jump).run P W3 = .ok (.bool jump.isNone) (W3.putObj (w.heap.size + 1) (.loop (rec (if jump.isNone then .ready else .done) jump))) ∧
    W3.heap[w.heap.size + 1]? = some (.loop { rec .ready none with state := .busy }) ∧
    (W3.putObj (w.heap.size + 1) (.loop (rec (if jump.isNone then .ready else .done) jump))).heap[w.heap.size + 1]? = some (.loop (rec (if jump.isNone then .ready else .done) jump)) ∧
    (W3.putObj (w.heap.size + 1) (.loop (rec (if jump.isNone then .ready else .done) jump))).heap[w.heap.size]? = some (.deferred (some [])) := fun jump W3 hk3 => by
   have hl3 := hk3.same _ _ hl2 rfl
   have := run_endRound (P := P) jump hl3
   rw [hrec] at this ⊢
   exact ⟨this, by rw [hrec] at hl3; exact hl3, World.putObj_heap_same (Array.getElem?_eq_some_iff.1 hl3).1, (World.putObj_heap_other (by omega)).trans (hk3.same _ _ hk2 rfl)⟩
  rintro e a3 W3 hp
  cases e with
  | normal =>
   obtain ⟨hk3, hkp3, hi3⟩ := hp
   obtain ⟨hr, hl3, hl4, hk4⟩ := fin none W3 hk3
   exact ⟨_, _, hr, .inl ⟨rfl, ⟨hI.putObj _ hi3 (by omega) hl3 rfl, hl4, hk4⟩, hKt (hKt hw2 hkp3) (hKb _ _ _ _ (by omega) hl3 rfl rfl)⟩⟩
  | ret =>
   obtain ⟨hk3, hi3⟩ := hp
   obtain ⟨hr, hl3, hl4, hk4⟩ := fin (some .ret) W3 hk3
   exact ⟨_, _, hr, .inr ⟨rfl, .ret, (hIx _).putObj _ hi3 (by omega) hl3 rfl, hl4, hk4⟩⟩
  | exit id =>
   obtain ⟨hk3, hi3⟩ := hp
   obtain ⟨hr, hl3, hl4, hk4⟩ := fin (some (.exit id)) W3 hk3
   exact ⟨_, _, hr, .inr ⟨rfl, .exit id, (hIx _).putObj _ hi3 (by omega) hl3 rfl, hl4, hk4⟩⟩
  | goto t =>
   obtain ⟨hk3, hi3⟩ := hp
   obtain ⟨hr, hl3, hl4, hk4⟩ := fin (some (.goto t)) W3 hk3
   exact ⟨_, _, hr, .inr ⟨rfl, .goto t, (hIx _).putObj _ hi3 (by omega) hl3 rfl, hl4, hk4⟩⟩
  | panic ch => exact hp.elim
  | outgrown => exact hp.elim
 rintro e W2 ⟨⟨v, rfl⟩, (⟨xs, hS, hi, hl, hk⟩ | ⟨pre, hSp, c, hi, hl, hk⟩)⟩
 ·exact ⟨none, _, by have := run_endLoop (P := P) hl (by rw [hrec]; simp); rw [hrec] at this; exact this, hdone _ xs _ (Nat.le_refl _) hS (hI.putObj _ hi (by omega) hl rfl) ((World.putObj_heap_other (by omega)).trans hk)⟩
 exact ⟨some c, _, by have := run_endLoop (P := P) hl (by rw [hrec]; simp); rw [hrec] at this; exact this, hstop _ c pre _ (Nat.le_refl _) hSp ((hIx c).putObj _ hi (by omega) hl rfl) ((World.putObj_heap_other (by omega)).trans hk)⟩
end Go.Firn
/-
 DERIVED: THE SHELF's CONTRACTS AT THIS DUMP, IN PLAIN WORDS (tools/lay-plain.mjs out of 'YtehdemcfeoiecaaGreatDoorShelf.lean', which tools/lay-shelf.mjs wrote): THE SAME DECLARATIONS UNDER THE SAME NAMES: 'import', 'namespace', 'open', 'def', 'theorem' AND NOTHING ELSE: no command of the shelf's: FOR A HAND-IN. Each laying: the table of numbers ('.._ren') and one theorem, a field a fact of the dump's own or the kernel's comparison; each contract: ONE APPLICATION.
-/
namespace Go.Proofs
open Go.Shelf
def Tryz.itoa124_ren : Go.Shelf.Ren := ⟨fun | 171 => 124 | 243 => 157 | 246 => 192 | 283 => 227 | 284 => 228 | 285 => 229 | 286 => 230 | 129 => 214 | 317 => 249 | 318 => 250 | 319 => 251 | 320 => 252 | 337 => 259 | 338 => 260 | n => n, fun | 3 => 3 | 9 => 9 | 2 => 2 | 4 => 4 | 171 => 263 | 0 => 0 | 53 => 247 | 37 => 176 | 5 => 5 | 173 => 265 | 212 => 286 | 51 => 245 | 20 => 20 | 213 => 287 | 46 => 219 | 232 => 293 | 233 => 294 | n => n, fun | 17 => 5 | 18 => 6 | 19 => 7 | n => n⟩
theorem Tryz.itoa124 : Go.Proofs.LaysM.n171 Tryz.prog Tryz.itoa124_ren := {
 mixed := by kernel_rfl
 f129 := Tryz.func214.trans (congrArg some (by kernel_rfl))
 f171 := Tryz.func124.trans (congrArg some (by kernel_rfl))
 f243 := Tryz.func157.trans (congrArg some (by kernel_rfl))
 f246 := Tryz.func192.trans (congrArg some (by kernel_rfl))
 f283 := Tryz.func227.trans (congrArg some (by kernel_rfl))
 f284 := Tryz.func228.trans (congrArg some (by kernel_rfl))
 f285 := Tryz.func229.trans (congrArg some (by kernel_rfl))
 f286 := Tryz.func230.trans (congrArg some (by kernel_rfl))
 f317 := Tryz.func249.trans (congrArg some (by kernel_rfl))
 f318 := Tryz.func250.trans (congrArg some (by kernel_rfl))
 f319 := Tryz.func251.trans (congrArg some (by kernel_rfl))
 f320 := Tryz.func252.trans (congrArg some (by kernel_rfl))
 f337 := Tryz.func259.trans (congrArg some (by kernel_rfl))
 f338 := Tryz.func260.trans (congrArg some (by kernel_rfl))
 t0 := Tryz.underlying0
 a0 := Tryz.isAgg0
 z0 := Tryz.sizeOf0
 v0 := Tryz.zeroValue0
 t2 := Tryz.underlying2
 a2 := Tryz.isAgg2
 z2 := Tryz.sizeOf2
 v2 := Tryz.zeroValue2
 t3 := Tryz.underlying3
 a3 := Tryz.isAgg3
 z3 := Tryz.sizeOf3
 v3 := Tryz.zeroValue3
 t4 := Tryz.underlying4
 a4 := Tryz.isAgg4
 z4 := Tryz.sizeOf4
 v4 := Tryz.zeroValue4
 t5 := Tryz.underlying5
 a5 := Tryz.isAgg5
 z5 := Tryz.sizeOf5
 v5 := Tryz.zeroValue5
 t9 := Tryz.underlying9
 a9 := Tryz.isAgg9
 z9 := Tryz.sizeOf9
 v9 := Tryz.zeroValue9
 t20 := Tryz.underlying20
 a20 := Tryz.isAgg20
 z20 := Tryz.sizeOf20
 v20 := Tryz.zeroValue20
 t37 := Tryz.underlying176
 a37 := Tryz.isAgg176
 z37 := Tryz.sizeOf176
 v37 := Tryz.zeroValue176
 t46 := Tryz.underlying219
 a46 := Tryz.isAgg219
 z46 := Tryz.sizeOf219
 v46 := Tryz.zeroValue219
 t51 := Tryz.underlying245
 a51 := Tryz.isAgg245
 z51 := Tryz.sizeOf245
 v51 := Tryz.zeroValue245
 t53 := Tryz.underlying247
 a53 := Tryz.isAgg247
 z53 := Tryz.sizeOf247
 v53 := Tryz.zeroValue247
 t171 := Tryz.underlying263
 a171 := Tryz.isAgg263
 z171 := Tryz.sizeOf263
 v171 := Tryz.zeroValue263
 t173 := Tryz.underlying265
 a173 := Tryz.isAgg265
 z173 := Tryz.sizeOf265
 v173 := Tryz.zeroValue265
 t212 := Tryz.underlying286
 a212 := Tryz.isAgg286
 z212 := Tryz.sizeOf286
 v212 := Tryz.zeroValue286
 t213 := Tryz.underlying287
 a213 := Tryz.isAgg287
 z213 := Tryz.sizeOf287
 t232 := Tryz.underlying293
 a232 := Tryz.isAgg293
 z232 := Tryz.sizeOf293
 v232 := Tryz.zeroValue293
 t233 := Tryz.underlying294
 a233 := Tryz.isAgg294
 z233 := Tryz.sizeOf294
 v233 := Tryz.zeroValue294
 g17 := by kernel_rfl
 g18 := by kernel_rfl
 g19 := by kernel_rfl
 i0 := by kernel_rfl
 i2 := by kernel_rfl
 i3 := by kernel_rfl
 i4 := by kernel_rfl
 i5 := by kernel_rfl
 i9 := by kernel_rfl
 i20 := by kernel_rfl
 i37 := by kernel_rfl
 i46 := by kernel_rfl
 i51 := by kernel_rfl
 i53 := by kernel_rfl
 i171 := by kernel_rfl
 i173 := by kernel_rfl
 i212 := by kernel_rfl
 i232 := by kernel_rfl
 i233 := by kernel_rfl
 m17 := by kernel_rfl
 m18 := by kernel_rfl
 m19 := by kernel_rfl }
def Tryz.atoi123_ren : Go.Shelf.Ren := ⟨fun | 172 => 123 | 244 => 155 | 245 => 156 | 247 => 187 | 279 => 188 | 280 => 189 | 281 => 190 | 282 => 191 | 287 => 224 | 316 => 225 | 171 => 124 | 205 => 226 | 321 => 247 | 322 => 248 | 243 => 157 | 246 => 192 | 283 => 227 | 284 => 228 | 285 => 229 | 286 => 230 | 129 => 214 | 317 => 249 | 318 => 250 | 319 => 251 | 320 => 252 | 337 => 259 | 338 => 260 | n => n, fun | 9 => 9 | 3 => 3 | 75 => 170 | 76 => 171 | 4 => 4 | 5 => 5 | 167 => 223 | 37 => 176 | 0 => 0 | 85 => 224 | 2 => 2 | 168 => 226 | 53 => 247 | 175 => 257 | 46 => 219 | 210 => 261 | 127 => 281 | 145 => 284 | 143 => 282 | 21 => 21 | 171 => 263 | 173 => 265 | 212 => 286 | 51 => 245 | 20 => 20 | 213 => 287 | 232 => 293 | 233 => 294 | 80 => 295 | n => n, fun | 15 => 3 | 16 => 4 | 17 => 5 | 18 => 6 | 19 => 7 | n => n⟩
theorem Tryz.atoi123 : Go.Proofs.LaysC.n172 Tryz.prog Tryz.atoi123_ren := {
 mixed := by kernel_rfl
 f129 := Tryz.func214.trans (congrArg some (by kernel_rfl))
 f171 := Tryz.func124.trans (congrArg some (by kernel_rfl))
 f172 := Tryz.func123.trans (congrArg some (by kernel_rfl))
 f205 := Tryz.func226.trans (congrArg some (by kernel_rfl))
 f243 := Tryz.func157.trans (congrArg some (by kernel_rfl))
 f244 := Tryz.func155.trans (congrArg some (by kernel_rfl))
 f245 := Tryz.func156.trans (congrArg some (by kernel_rfl))
 f246 := Tryz.func192.trans (congrArg some (by kernel_rfl))
 f247 := Tryz.func187.trans (congrArg some (by kernel_rfl))
 f279 := Tryz.func188.trans (congrArg some (by kernel_rfl))
 f280 := Tryz.func189.trans (congrArg some (by kernel_rfl))
 f281 := Tryz.func190.trans (congrArg some (by kernel_rfl))
 f282 := Tryz.func191.trans (congrArg some (by kernel_rfl))
 f283 := Tryz.func227.trans (congrArg some (by kernel_rfl))
 f284 := Tryz.func228.trans (congrArg some (by kernel_rfl))
 f285 := Tryz.func229.trans (congrArg some (by kernel_rfl))
 f286 := Tryz.func230.trans (congrArg some (by kernel_rfl))
 f287 := Tryz.func224.trans (congrArg some (by kernel_rfl))
 f316 := Tryz.func225.trans (congrArg some (by kernel_rfl))
 f317 := Tryz.func249.trans (congrArg some (by kernel_rfl))
 f318 := Tryz.func250.trans (congrArg some (by kernel_rfl))
 f319 := Tryz.func251.trans (congrArg some (by kernel_rfl))
 f320 := Tryz.func252.trans (congrArg some (by kernel_rfl))
 f321 := Tryz.func247.trans (congrArg some (by kernel_rfl))
 f322 := Tryz.func248.trans (congrArg some (by kernel_rfl))
 f337 := Tryz.func259.trans (congrArg some (by kernel_rfl))
 f338 := Tryz.func260.trans (congrArg some (by kernel_rfl))
 t0 := Tryz.underlying0
 a0 := Tryz.isAgg0
 z0 := Tryz.sizeOf0
 v0 := Tryz.zeroValue0
 t2 := Tryz.underlying2
 a2 := Tryz.isAgg2
 z2 := Tryz.sizeOf2
 v2 := Tryz.zeroValue2
 t3 := Tryz.underlying3
 a3 := Tryz.isAgg3
 z3 := Tryz.sizeOf3
 v3 := Tryz.zeroValue3
 t4 := Tryz.underlying4
 a4 := Tryz.isAgg4
 z4 := Tryz.sizeOf4
 v4 := Tryz.zeroValue4
 t5 := Tryz.underlying5
 a5 := Tryz.isAgg5
 z5 := Tryz.sizeOf5
 v5 := Tryz.zeroValue5
 t9 := Tryz.underlying9
 a9 := Tryz.isAgg9
 z9 := Tryz.sizeOf9
 v9 := Tryz.zeroValue9
 t20 := Tryz.underlying20
 a20 := Tryz.isAgg20
 z20 := Tryz.sizeOf20
 v20 := Tryz.zeroValue20
 t21 := Tryz.underlying21
 a21 := Tryz.isAgg21
 z21 := Tryz.sizeOf21
 v21 := Tryz.zeroValue21
 t37 := Tryz.underlying176
 a37 := Tryz.isAgg176
 z37 := Tryz.sizeOf176
 v37 := Tryz.zeroValue176
 t46 := Tryz.underlying219
 a46 := Tryz.isAgg219
 z46 := Tryz.sizeOf219
 v46 := Tryz.zeroValue219
 t51 := Tryz.underlying245
 a51 := Tryz.isAgg245
 z51 := Tryz.sizeOf245
 v51 := Tryz.zeroValue245
 t53 := Tryz.underlying247
 a53 := Tryz.isAgg247
 z53 := Tryz.sizeOf247
 v53 := Tryz.zeroValue247
 t75 := Tryz.underlying170
 a75 := Tryz.isAgg170
 z75 := Tryz.sizeOf170
 v75 := Tryz.zeroValue170
 t76 := Tryz.underlying171
 a76 := Tryz.isAgg171
 z76 := Tryz.sizeOf171
 v76 := Tryz.zeroValue171
 t85 := Tryz.underlying224
 a85 := Tryz.isAgg224
 z85 := Tryz.sizeOf224
 v85 := Tryz.zeroValue224
 t127 := Tryz.underlying281
 a127 := Tryz.isAgg281
 z127 := Tryz.sizeOf281
 v127 := Tryz.zeroValue281
 t143 := Tryz.underlying282
 a143 := Tryz.isAgg282
 z143 := Tryz.sizeOf282
 v143 := Tryz.zeroValue282
 t145 := Tryz.underlying284
 a145 := Tryz.isAgg284
 z145 := Tryz.sizeOf284
 v145 := Tryz.zeroValue284
 t167 := Tryz.underlying223
 a167 := Tryz.isAgg223
 z167 := Tryz.sizeOf223
 v167 := Tryz.zeroValue223
 t168 := Tryz.underlying226
 a168 := Tryz.isAgg226
 z168 := Tryz.sizeOf226
 v168 := Tryz.zeroValue226
 t171 := Tryz.underlying263
 a171 := Tryz.isAgg263
 z171 := Tryz.sizeOf263
 v171 := Tryz.zeroValue263
 t173 := Tryz.underlying265
 a173 := Tryz.isAgg265
 z173 := Tryz.sizeOf265
 v173 := Tryz.zeroValue265
 t175 := Tryz.underlying257
 a175 := Tryz.isAgg257
 z175 := Tryz.sizeOf257
 v175 := Tryz.zeroValue257
 t210 := Tryz.underlying261
 a210 := Tryz.isAgg261
 z210 := Tryz.sizeOf261
 v210 := Tryz.zeroValue261
 t212 := Tryz.underlying286
 a212 := Tryz.isAgg286
 z212 := Tryz.sizeOf286
 v212 := Tryz.zeroValue286
 t213 := Tryz.underlying287
 a213 := Tryz.isAgg287
 z213 := Tryz.sizeOf287
 t232 := Tryz.underlying293
 a232 := Tryz.isAgg293
 z232 := Tryz.sizeOf293
 v232 := Tryz.zeroValue293
 t233 := Tryz.underlying294
 a233 := Tryz.isAgg294
 z233 := Tryz.sizeOf294
 v233 := Tryz.zeroValue294
 g15 := by kernel_rfl
 g16 := by kernel_rfl
 g17 := by kernel_rfl
 g18 := by kernel_rfl
 g19 := by kernel_rfl
 t80 := Tryz.underlying295
 a80 := Tryz.isAgg295
 z80 := Tryz.sizeOf295
 v80 := Tryz.zeroValue295
 i0 := by kernel_rfl
 i2 := by kernel_rfl
 i3 := by kernel_rfl
 i4 := by kernel_rfl
 i5 := by kernel_rfl
 i9 := by kernel_rfl
 i20 := by kernel_rfl
 i21 := by kernel_rfl
 i37 := by kernel_rfl
 i46 := by kernel_rfl
 i51 := by kernel_rfl
 i53 := by kernel_rfl
 i75 := by kernel_rfl
 i76 := by kernel_rfl
 i80 := by kernel_rfl
 i85 := by kernel_rfl
 i127 := by kernel_rfl
 i143 := by kernel_rfl
 i145 := by kernel_rfl
 i167 := by kernel_rfl
 i168 := by kernel_rfl
 i171 := by kernel_rfl
 i173 := by kernel_rfl
 i175 := by kernel_rfl
 i210 := by kernel_rfl
 i212 := by kernel_rfl
 i232 := by kernel_rfl
 i233 := by kernel_rfl
 m15 := by kernel_rfl
 m16 := by kernel_rfl
 m17 := by kernel_rfl
 m18 := by kernel_rfl
 m19 := by kernel_rfl
 c0 := by kernel_rfl
 c2 := by kernel_rfl
 c3 := by kernel_rfl
 c4 := by kernel_rfl
 c5 := by kernel_rfl
 c9 := by kernel_rfl
 c20 := by kernel_rfl
 c21 := by kernel_rfl
 c37 := by kernel_rfl
 c46 := by kernel_rfl
 c51 := by kernel_rfl
 c53 := by kernel_rfl
 c75 := by kernel_rfl
 c76 := by kernel_rfl
 c80 := by kernel_rfl
 c85 := by kernel_rfl
 c127 := by kernel_rfl
 c143 := by kernel_rfl
 c145 := by kernel_rfl
 c167 := by kernel_rfl
 c168 := by kernel_rfl
 c171 := by kernel_rfl
 c173 := by kernel_rfl
 c175 := by kernel_rfl
 c210 := by kernel_rfl
 c212 := by kernel_rfl
 c213 := by kernel_rfl
 c232 := by kernel_rfl
 c233 := by kernel_rfl }
def Tryz.idx159_ren : Go.Shelf.Ren := ⟨fun | 219 => 159 | 217 => 193 | 225 => 194 | 224 => 195 | 267 => 196 | 266 => 231 | 314 => 232 | n => n, fun | 9 => 9 | 3 => 3 | 4 => 4 | 5 => 5 | 46 => 219 | 146 => 267 | 51 => 245 | n => n, fun | 1 => 0 | n => n⟩
theorem Tryz.idx159 : Go.Proofs.Lays.n219 Tryz.prog Tryz.idx159_ren := {
 mixed := by kernel_rfl
 f217 := Tryz.func193.trans (congrArg some (by kernel_rfl))
 f219 := Tryz.func159.trans (congrArg some (by kernel_rfl))
 f224 := Tryz.func195.trans (congrArg some (by kernel_rfl))
 f225 := Tryz.func194.trans (congrArg some (by kernel_rfl))
 f266 := Tryz.func231.trans (congrArg some (by kernel_rfl))
 f267 := Tryz.func196.trans (congrArg some (by kernel_rfl))
 f314 := Tryz.func232.trans (congrArg some (by kernel_rfl))
 t3 := Tryz.underlying3
 a3 := Tryz.isAgg3
 z3 := Tryz.sizeOf3
 v3 := Tryz.zeroValue3
 t4 := Tryz.underlying4
 a4 := Tryz.isAgg4
 z4 := Tryz.sizeOf4
 v4 := Tryz.zeroValue4
 t5 := Tryz.underlying5
 a5 := Tryz.isAgg5
 z5 := Tryz.sizeOf5
 v5 := Tryz.zeroValue5
 t9 := Tryz.underlying9
 a9 := Tryz.isAgg9
 z9 := Tryz.sizeOf9
 v9 := Tryz.zeroValue9
 t46 := Tryz.underlying219
 a46 := Tryz.isAgg219
 z46 := Tryz.sizeOf219
 v46 := Tryz.zeroValue219
 t51 := Tryz.underlying245
 a51 := Tryz.isAgg245
 z51 := Tryz.sizeOf245
 v51 := Tryz.zeroValue245
 t146 := Tryz.underlying267
 a146 := Tryz.isAgg267
 z146 := Tryz.sizeOf267
 v146 := Tryz.zeroValue267
 g1 := by kernel_rfl }
def Tryz.idx126_ren : Go.Shelf.Ren := ⟨fun | 143 => 126 | 219 => 159 | 217 => 193 | 225 => 194 | 224 => 195 | 267 => 196 | 266 => 231 | 314 => 232 | n => n, fun | 9 => 9 | 3 => 3 | 4 => 4 | 5 => 5 | 46 => 219 | 146 => 267 | 51 => 245 | n => n, fun | 1 => 0 | n => n⟩
theorem Tryz.idx126 : Go.Proofs.Lays.n143 Tryz.prog Tryz.idx126_ren := {
 mixed := by kernel_rfl
 f143 := Tryz.func126.trans (congrArg some (by kernel_rfl))
 f217 := Tryz.func193.trans (congrArg some (by kernel_rfl))
 f219 := Tryz.func159.trans (congrArg some (by kernel_rfl))
 f224 := Tryz.func195.trans (congrArg some (by kernel_rfl))
 f225 := Tryz.func194.trans (congrArg some (by kernel_rfl))
 f266 := Tryz.func231.trans (congrArg some (by kernel_rfl))
 f267 := Tryz.func196.trans (congrArg some (by kernel_rfl))
 f314 := Tryz.func232.trans (congrArg some (by kernel_rfl))
 t3 := Tryz.underlying3
 a3 := Tryz.isAgg3
 z3 := Tryz.sizeOf3
 v3 := Tryz.zeroValue3
 t4 := Tryz.underlying4
 a4 := Tryz.isAgg4
 z4 := Tryz.sizeOf4
 v4 := Tryz.zeroValue4
 t5 := Tryz.underlying5
 a5 := Tryz.isAgg5
 z5 := Tryz.sizeOf5
 v5 := Tryz.zeroValue5
 t9 := Tryz.underlying9
 a9 := Tryz.isAgg9
 z9 := Tryz.sizeOf9
 v9 := Tryz.zeroValue9
 t46 := Tryz.underlying219
 a46 := Tryz.isAgg219
 z46 := Tryz.sizeOf219
 v46 := Tryz.zeroValue219
 t51 := Tryz.underlying245
 a51 := Tryz.isAgg245
 z51 := Tryz.sizeOf245
 v51 := Tryz.zeroValue245
 t146 := Tryz.underlying267
 a146 := Tryz.isAgg267
 z146 := Tryz.sizeOf267
 v146 := Tryz.zeroValue267
 g1 := by kernel_rfl }
def Tryz.hpre186_ren : Go.Shelf.Ren := ⟨fun | 206 => 186 | n => n, fun | 9 => 9 | 4 => 4 | 3 => 3 | n => n, fun | n => n⟩
theorem Tryz.hpre186 : Go.Proofs.Lays.n206 Tryz.prog Tryz.hpre186_ren := {
 mixed := by kernel_rfl
 f206 := Tryz.func186.trans (congrArg some (by kernel_rfl))
 t3 := Tryz.underlying3
 a3 := Tryz.isAgg3
 z3 := Tryz.sizeOf3
 v3 := Tryz.zeroValue3
 t4 := Tryz.underlying4
 a4 := Tryz.isAgg4
 z4 := Tryz.sizeOf4
 v4 := Tryz.zeroValue4
 t9 := Tryz.underlying9
 a9 := Tryz.isAgg9
 z9 := Tryz.sizeOf9
 v9 := Tryz.zeroValue9 }
end Go.Proofs
