/- Contracts of chapter 9: the value and the cost of a sum, by the program and by the reference. -/
import Derived.Test.YtehdemcfeoiecaaDoorW3
namespace Go.Proofs.YtehdemcfeoiecaaDoor
open Go.RowKit Go.Firn Go.Shelf

theorem Tryd.info3 : (Tryd.prog.info? 3).map (fun i => (i.zero, i.size, i.bytes)) = some (some (.int .i64 0), 1, 8) := by kernel_rfl

set_option maxHeartbeats 4000000 in
theorem value_any (a a' : Option Addr) (n c c' : Nat) (f : Nat → ByteArray) (g : Nat → Int) (l : Nat → Int) (w : World) (hS : vS f g n = true) (hr : RdS w a n f g) (hl : RdI w a' 8 l) (hb : ∀ i, i < 8 → 0 ≤ l i ∧ l i ≤ 10) :
    Calls Tryd.prog 33 #[.slice a n c, .slice a' 8 c'] w fun e w' => e = .returned (.int .i64 (vlS l f g n)) ∧ Gr w w' := by
  have HR := Lib.hid hr
  have HL := Lib.hid hl
  have HB := Lib.hid hb
  have VS := Lib.hid (fun i (hi : i < n) => (vS_at hS).2 i hi)
  have n40 := (vS_at hS).1
  have VB := Lib.hid (fun k (hk : k ≤ n) => vlS_bd hb hS k hk)
  have VN := Lib.hid (fun k => show vlS l f g (k + 1) = vlS l f g k + prd l (f k) (g k) (f k).size from rfl)
  clear hr hl hb hS
  go_enter Tryd.func33, Tryd.ntmps33
  go_wp2
  go_loopw [5, 12] (fun so si wr => ∃ k : Nat, k ≤ n ∧ so = .int .i64 (vlS l f g k) ∧ si = .int .i64 k ∧ Hid (Gr w wr)) (fun _ si _ => n - (intOf si).toNat)
  case atStart => exact ⟨0, Nat.zero_le _, rfl, rfl, Gr.refl w⟩
  case round =>
    obtain ⟨k, hk, rfl, rfl, hG⟩ := hrel
    by_cases hlt : k < n
    · have i1 : (k : Int) < (n : Int) := by omega
      obtain ⟨b, o, rfl, hc⟩ := (HR.out.gr hG.out).at hlt
      obtain ⟨k0, k1⟩ := hc k hlt
      obtain ⟨t1, t2, t3⟩ := VS.out k hlt
      have GB := Lib.hid (hG.out.alloc (.cells #[.string (f k), .int .i64 (g k)] 34))
      obtain ⟨z0, z1⟩ := box2 wr (f k) (g k) 34
      have LI := Lib.hid (fun i (hi : i < (f k).size) => (isTk_at t1).2 i hi)
      have SZ := (isTk_at t1).1
      clear hc
      have BD := Lib.hid (fun q (hq : q ≤ (f k).size) => prd_top (m := g k) HB.out t1 ⟨t2, t3⟩ hq)
      have vb := VB.out k (by omega)
      have VK := Lib.hid (VN.out k)
      generalize f k = s at *
      generalize g k = m at *
      generalize hv : vlS l f g k = v at *
      clear hv t1 t2 t3
      go_wp2_with fail
      generalize hW : wr.alloc (.cells #[.string s, .int .i64 m] 34) = W1 at *
      generalize hX : wr.heap.size = bx at *
      clear hW hX k0 k1
      go_loopw [8, 21] (fun sn sq wx => ∃ q : Nat, q ≤ s.size ∧ sn = .int .i64 (prd l s m q) ∧ sq = .int .i64 q ∧ wx = W1) (fun _ sq _ => s.size - (intOf sq).toNat)
      case atStart => exact ⟨0, Nat.zero_le _, rfl, rfl, rfl⟩
      case round =>
        obtain ⟨q, hq, rfl, rfl, hw⟩ := hrel
        subst hw
        by_cases hlq : q < s.size
        · have i2 : (q : Int) < (s.size : Int) := by omega
          have l1 := bt_get hlq
          have l2 := LI.out q hlq
          have b1 := BD.out q (by omega)
          have b2 := BD.out (q + 1) hlq
          have E := Lib.hid (show prd l s m (q + 1) = prd l s m q * l (bt s q - 97) from rfl)
          rw [E.out] at b2
          generalize bt s q = x at *
          obtain ⟨y, hy⟩ : ∃ y, x = y + 97 := ⟨x - 97, by omega⟩
          have hy8 : y < 8 := by omega
          have e1 : IntKind.u8.wrap ((x : Int) - 97) = (y : Int) := by rw [IntKind.wrap_u8']; omega
          have y8 : (y : Int) < 8 := by omega
          obtain ⟨bn, on, rfl, hn⟩ := (HL.out.gr GB.out).at (show 0 < 8 by omega)
          have cn := hn y hy8
          rw [show x - 97 = y by omega] at b2 E
          generalize l y = ly at *
          generalize prd l s m q = pq at *
          have e2 : IntKind.i64.wrap (pq * ly) = pq * ly := IntWalk.i64_in _ (by omega)
          have e3 : wrap64 (pq * ly) = pq * ly := IntWalk.wrap64_in _ (by omega)
          clear b1 b2 hn hy l2
          go_wp2_with fail
          go_roundw
          case rel => exact ⟨q + 1, hlq, by rw [← E.out], by go_num, by trivial⟩
          case measure => simp [intOf]; omega
        · obtain rfl : q = s.size := by omega
          have i2 : ¬ (s.size : Int) < (s.size : Int) := by omega
          have b1 := BD.out s.size (Nat.le_refl _)
          have VK2 := Lib.hid VK.out
          clear VK
          generalize prd l s m s.size = pq at *
          have e2 : IntKind.i64.wrap (v + pq) = v + pq := IntWalk.i64_in _ (by omega)
          have e3 : wrap64 (v + pq) = v + pq := IntWalk.wrap64_in _ (by omega)
          clear b1 vb
          go_wp2_with fail
          go_roundw
          case rel => exact ⟨k + 1, hlt, by rw [← VK2.out], by go_num, GB⟩
          case measure => simp [intOf]; omega
    · obtain rfl : k = n := by omega
      have i1 : ¬ (k : Int) < (k : Int) := by omega
      go_wp2_with fail
      go_ret
      exact ⟨rfl, hG.out⟩

set_option maxHeartbeats 4000000 in
theorem refvalue_any (a a' : Option Addr) (n c c' : Nat) (f : Nat → ByteArray) (g : Nat → Int) (l : Nat → Int) (w : World) (hS : vS f g n = true) (hr : RdS w a n f g) (hl : RdI w a' 8 l) (hb : ∀ i, i < 8 → 0 ≤ l i ∧ l i ≤ 10) :
    Calls Tryd.prog 34 #[.slice a n c, .slice a' 8 c'] w fun e w' => e = .returned (.int .i64 (vlS l f g n)) ∧ Gr w w' := by
  have HR := Lib.hid hr
  have HL := Lib.hid hl
  have HB := Lib.hid hb
  have VS := Lib.hid (fun i (hi : i < n) => (vS_at hS).2 i hi)
  have n40 := (vS_at hS).1
  have VB := Lib.hid (fun k (hk : k ≤ n) => vlS_bd hb hS k hk)
  have VN := Lib.hid (fun k => show vlS l f g (k + 1) = vlS l f g k + prd l (f k) (g k) (f k).size from rfl)
  clear hr hl hb hS
  go_enter Tryd.func34, Tryd.ntmps34
  go_wp2
  go_loopw [5, 12] (fun so si wr => ∃ k : Nat, k ≤ n ∧ so = .int .i64 (vlS l f g k) ∧ si = .int .i64 k ∧ Hid (Gr w wr)) (fun _ si _ => n - (intOf si).toNat)
  case atStart => exact ⟨0, Nat.zero_le _, rfl, rfl, Gr.refl w⟩
  case round =>
    obtain ⟨k, hk, rfl, rfl, hG⟩ := hrel
    by_cases hlt : k < n
    · have i1 : (k : Int) < (n : Int) := by omega
      obtain ⟨b, o, rfl, hc⟩ := (HR.out.gr hG.out).at hlt
      obtain ⟨k0, k1⟩ := hc k hlt
      obtain ⟨t1, t2, t3⟩ := VS.out k hlt
      have GB := Lib.hid (hG.out.alloc (.cells #[.string (f k), .int .i64 (g k)] 34))
      obtain ⟨z0, z1⟩ := box2 wr (f k) (g k) 34
      have LI := Lib.hid (fun i (hi : i < (f k).size) => (isTk_at t1).2 i hi)
      have SZ := (isTk_at t1).1
      clear hc
      have BD := Lib.hid (fun q (hq : q ≤ (f k).size) => prd_top (m := g k) HB.out t1 ⟨t2, t3⟩ hq)
      have vb := VB.out k (by omega)
      have VK := Lib.hid (VN.out k)
      generalize f k = s at *
      generalize g k = m at *
      generalize hv : vlS l f g k = v at *
      clear hv t1 t2 t3
      go_wp2_with fail
      generalize hW : wr.alloc (.cells #[.string s, .int .i64 m] 34) = W1 at *
      generalize hX : wr.heap.size = bx at *
      clear hW hX k0 k1
      go_loopw [8, 21] (fun sn sq wx => ∃ q : Nat, q ≤ s.size ∧ sn = .int .i64 (prd l s m q) ∧ sq = .int .i64 q ∧ wx = W1) (fun _ sq _ => s.size - (intOf sq).toNat)
      case atStart => exact ⟨0, Nat.zero_le _, rfl, rfl, rfl⟩
      case round =>
        obtain ⟨q, hq, rfl, rfl, hw⟩ := hrel
        subst hw
        by_cases hlq : q < s.size
        · have i2 : (q : Int) < (s.size : Int) := by omega
          have l1 := bt_get hlq
          have l2 := LI.out q hlq
          have b1 := BD.out q (by omega)
          have b2 := BD.out (q + 1) hlq
          have E := Lib.hid (show prd l s m (q + 1) = prd l s m q * l (bt s q - 97) from rfl)
          rw [E.out] at b2
          generalize bt s q = x at *
          obtain ⟨y, hy⟩ : ∃ y, x = y + 97 := ⟨x - 97, by omega⟩
          have hy8 : y < 8 := by omega
          have e1 : IntKind.u8.wrap ((x : Int) - 97) = (y : Int) := by rw [IntKind.wrap_u8']; omega
          have y8 : (y : Int) < 8 := by omega
          obtain ⟨bn, on, rfl, hn⟩ := (HL.out.gr GB.out).at (show 0 < 8 by omega)
          have cn := hn y hy8
          rw [show x - 97 = y by omega] at b2 E
          generalize l y = ly at *
          generalize prd l s m q = pq at *
          have e2 : IntKind.i64.wrap (pq * ly) = pq * ly := IntWalk.i64_in _ (by omega)
          have e3 : wrap64 (pq * ly) = pq * ly := IntWalk.wrap64_in _ (by omega)
          clear b1 b2 hn hy l2
          go_wp2_with fail
          go_roundw
          case rel => exact ⟨q + 1, hlq, by rw [← E.out], by go_num, by trivial⟩
          case measure => simp [intOf]; omega
        · obtain rfl : q = s.size := by omega
          have i2 : ¬ (s.size : Int) < (s.size : Int) := by omega
          have b1 := BD.out s.size (Nat.le_refl _)
          have VK2 := Lib.hid VK.out
          clear VK
          generalize prd l s m s.size = pq at *
          have e2 : IntKind.i64.wrap (v + pq) = v + pq := IntWalk.i64_in _ (by omega)
          have e3 : wrap64 (v + pq) = v + pq := IntWalk.wrap64_in _ (by omega)
          clear b1 vb
          go_wp2_with fail
          go_roundw
          case rel => exact ⟨k + 1, hlt, by rw [← VK2.out], by go_num, GB⟩
          case measure => simp [intOf]; omega
    · obtain rfl : k = n := by omega
      have i1 : ¬ (k : Int) < (k : Int) := by omega
      go_wp2_with fail
      go_ret
      exact ⟨rfl, hG.out⟩

set_option maxHeartbeats 4000000 in
theorem cost_any (a a' : Option Addr) (n c c' : Nat) (f : Nat → ByteArray) (g : Nat → Int) (l : Nat → Int) (w : World) (hp : 1 ≤ n) (hS : vS f g n = true) (hr : RdS w a n f g) (hl : RdI w a' 8 l) (hb : ∀ i, i < 8 → 0 ≤ l i ∧ l i ≤ 1000) :
    Calls Tryd.prog 35 #[.slice a n c, .slice a' 8 c'] w fun e w' => e = .returned (.int .i64 (mnR (csP l f) n)) ∧ Gr w w' := by
  have HR := Lib.hid hr
  have HL := Lib.hid hl
  have HB := Lib.hid hb
  have VS := Lib.hid (fun i (hi : i < n) => (vS_at hS).2 i hi)
  have n40 := (vS_at hS).1
  clear hr hl hb hS
  go_enter Tryd.func35, Tryd.ntmps35
  go_wp2
  go_loopw [5, 12] (fun so si wr => ∃ k : Nat, k ≤ n ∧ si = .int .i64 k ∧ Hid (OwnI w 3 wr so k (csP l f))) (fun _ si _ => n - (intOf si).toNat)
  case atStart => exact ⟨0, Nat.zero_le _, rfl, Lib.hid (OwnI.nil w 3 _)⟩
  case round =>
    obtain ⟨k, hk, rfl, hO⟩ := hrel
    have hG := Lib.hid hO.out.2
    by_cases hlt : k < n
    · have i1 : (k : Int) < (n : Int) := by omega
      obtain ⟨b, o, rfl, hc⟩ := (HR.out.gr hG.out).at hlt
      obtain ⟨k0, k1⟩ := hc k hlt
      obtain ⟨t1, t2, t3⟩ := VS.out k hlt
      have GB := Lib.hid (hG.out.alloc (.cells #[.string (f k), .int .i64 (g k)] 34))
      obtain ⟨z0, z1⟩ := box2 wr (f k) (g k) 34
      have LI := Lib.hid (fun i (hi : i < (f k).size) => (isTk_at t1).2 i hi)
      have SZ := (isTk_at t1).1
      clear hc
      have BD := Lib.hid (fun q (hq : q ≤ (f k).size) => show 0 ≤ csm l (f k) q ∧ csm l (f k) q ≤ 1000000 from by have := csm_bd HB.out t1 q hq; omega)
      have CK := Lib.hid (show csP l f k = csm l (f k) (f k).size from rfl)
      have OB := Lib.hid (hO.out.alloc (.cells #[.string (f k), .int .i64 (g k)] 34))
      have KK := Lib.hid (show k < 1000000000 by omega)
      generalize f k = s at *
      generalize g k = m at *
      clear t1 t2 t3
      go_wp2_with fail
      generalize hW : wr.alloc (.cells #[.string s, .int .i64 m] 34) = W1 at *
      generalize hX : wr.heap.size = bx at *
      clear hW hX k0 k1
      go_loopw [8, 19] (fun sn sq wx => ∃ q : Nat, q ≤ s.size ∧ sn = .int .i64 (csm l s q) ∧ sq = .int .i64 q ∧ wx = W1) (fun _ sq _ => s.size - (intOf sq).toNat)
      case atStart => exact ⟨0, Nat.zero_le _, rfl, rfl, rfl⟩
      case round =>
        obtain ⟨q, hq, rfl, rfl, hw⟩ := hrel
        subst hw
        by_cases hlq : q < s.size
        · have i2 : (q : Int) < (s.size : Int) := by omega
          have l1 := bt_get hlq
          have l2 := LI.out q hlq
          have b1 := BD.out q (by omega)
          have b2 := BD.out (q + 1) hlq
          have E := Lib.hid (show csm l s (q + 1) = csm l s q + l (bt s q - 97) from rfl)
          rw [E.out] at b2
          generalize bt s q = x at *
          obtain ⟨y, hy⟩ : ∃ y, x = y + 97 := ⟨x - 97, by omega⟩
          have hy8 : y < 8 := by omega
          have e1 : IntKind.u8.wrap ((x : Int) - 97) = (y : Int) := by rw [IntKind.wrap_u8']; omega
          have y8 : (y : Int) < 8 := by omega
          obtain ⟨bn, on, rfl, hn⟩ := (HL.out.gr GB.out).at (show 0 < 8 by omega)
          have cn := hn y hy8
          rw [show x - 97 = y by omega] at b2 E
          generalize l y = ly at *
          generalize csm l s q = pq at *
          have e2 : IntKind.i64.wrap (pq + ly) = pq + ly := IntWalk.i64_in _ (by omega)
          have e3 : wrap64 (pq + ly) = pq + ly := IntWalk.wrap64_in _ (by omega)
          clear b1 b2 hn hy l2
          go_wp2_with fail
          go_roundw
          case rel => exact ⟨q + 1, hlq, by rw [← E.out], by go_num, by trivial⟩
          case measure => simp [intOf]; omega
        · obtain rfl : q = s.size := by omega
          have i2 : ¬ (s.size : Int) < (s.size : Int) := by omega
          clear LI BD
          rw [← CK.out]
          generalize hz : csP l f k = z at *
          have CZ := Lib.hid hz
          clear hz CK
          go_wp2_with (at_builtin; go_must (refine wpList_app_int rfl _ _ 23 3 rfl Tryd.underlying23 Tryd.info3 _ _ _ rfl (OB.out.alloc _) _ _ rfl (cell_new1 _ _ _) CZ.out KK.out ?_); intro v1 w4 hown1 _)
          go_roundw
          case rel => exact ⟨k + 1, hlt, by go_num, Lib.hid hown1⟩
          case measure => simp [intOf]; omega
    · obtain rfl : k = n := by omega
      have i1 : ¬ (k : Int) < (k : Int) := by omega
      obtain ⟨ao, co, rfl, h1, h2, h3⟩ := hO.out.rd
      obtain ⟨bo, oo, rfl, hcx⟩ := h3.at (show 0 < k by omega)
      have C := Lib.hid (show Calls Tryd.prog 59 #[.slice (some ⟨bo, oo, none⟩) k co] wr fun e w' => e = .returned (.int .i64 (Lib.minOf (((List.range k).map (csP l f)).take k))) ∧ w' = wr from Any.slices_Min_int Tryd.min114 bo oo k co ((List.range k).map (csP l f)) wr hp (by simp) (by omega) (fun j hj => by
        have hj' : j < k := by simpa using hj
        rw [hcx j hj']
        simp [List.getD_eq_getElem?_getD, hj']))
      have EM := Lib.hid (show Lib.minOf (((List.range k).map (csP l f)).take k) = mnR (csP l f) k by
        obtain ⟨j, rfl⟩ : ∃ j, k = j + 1 := ⟨k - 1, by omega⟩
        rw [List.take_of_length_le (by simp), mnR_min])
      clear hcx h1 h2 h3
      go_wp2_with (go_at_call 59; (with_reducible refine C.out.mono ?_); rintro e w5 ⟨rfl, hw5⟩)
      go_ret
      subst hw5
      exact ⟨by first | rfl | (rw [← EM.out]; rfl) | exact congrArg (fun x => Ending.returned (Value.int .i64 x)) EM.out, hG.out⟩

set_option maxHeartbeats 4000000 in
theorem refcost_any (a a' : Option Addr) (n c c' : Nat) (f : Nat → ByteArray) (g : Nat → Int) (l : Nat → Int) (w : World) (hS : vS f g n = true) (hr : RdS w a n f g) (hl : RdI w a' 8 l) (hb : ∀ i, i < 8 → 0 ≤ l i ∧ l i ≤ 1000) :
    Calls Tryd.prog 36 #[.slice a n c, .slice a' 8 c'] w fun e w' => e = .returned (.int .i64 (mnR (csP l f) n)) ∧ Gr w w' := by
  have HR := Lib.hid hr
  have HL := Lib.hid hl
  have HB := Lib.hid hb
  have VS := Lib.hid (fun i (hi : i < n) => (vS_at hS).2 i hi)
  have n40 := (vS_at hS).1
  clear hr hl hb hS
  go_enter Tryd.func36, Tryd.ntmps36
  go_wp2
  go_loopw [5, 12] (fun so si wr => ∃ k : Nat, k ≤ n ∧ so = .int .i64 (mnR (csP l f) k) ∧ si = .int .i64 k ∧ Hid (Gr w wr)) (fun _ si _ => n - (intOf si).toNat)
  case atStart => exact ⟨0, Nat.zero_le _, rfl, rfl, Gr.refl w⟩
  case round =>
    obtain ⟨k, hk, rfl, rfl, hG⟩ := hrel
    by_cases hlt : k < n
    · have i1 : (k : Int) < (n : Int) := by omega
      obtain ⟨b, o, rfl, hc⟩ := (HR.out.gr hG.out).at hlt
      obtain ⟨k0, k1⟩ := hc k hlt
      obtain ⟨t1, t2, t3⟩ := VS.out k hlt
      have GB := Lib.hid (hG.out.alloc (.cells #[.string (f k), .int .i64 (g k)] 34))
      obtain ⟨z0, z1⟩ := box2 wr (f k) (g k) 34
      have LI := Lib.hid (fun i (hi : i < (f k).size) => (isTk_at t1).2 i hi)
      have SZ := (isTk_at t1).1
      clear hc
      have BD := Lib.hid (fun q (hq : q ≤ (f k).size) => show 0 ≤ csm l (f k) q ∧ csm l (f k) q ≤ 1000000 from by have := csm_bd HB.out t1 q hq; omega)
      have CK := Lib.hid (show csP l f k = csm l (f k) (f k).size from rfl)
      have MK := Lib.hid (show mnR (csP l f) (k + 1) = if k = 0 ∨ csP l f k < mnR (csP l f) k then csP l f k else mnR (csP l f) k from rfl)
      generalize f k = s at *
      generalize g k = m at *
      generalize mnR (csP l f) k = mk at *
      clear t1 t2 t3
      go_wp2_with fail
      generalize hW : wr.alloc (.cells #[.string s, .int .i64 m] 34) = W1 at *
      generalize hX : wr.heap.size = bx at *
      clear hW hX k0 k1
      go_loopw [8, 20] (fun sn sq wx => ∃ q : Nat, q ≤ s.size ∧ sn = .int .i64 (csm l s q) ∧ sq = .int .i64 q ∧ wx = W1) (fun _ sq _ => s.size - (intOf sq).toNat)
      case atStart => exact ⟨0, Nat.zero_le _, rfl, rfl, rfl⟩
      case round =>
        obtain ⟨q, hq, rfl, rfl, hw⟩ := hrel
        subst hw
        by_cases hlq : q < s.size
        · have i2 : (q : Int) < (s.size : Int) := by omega
          have l1 := bt_get hlq
          have l2 := LI.out q hlq
          have b1 := BD.out q (by omega)
          have b2 := BD.out (q + 1) hlq
          have E := Lib.hid (show csm l s (q + 1) = csm l s q + l (bt s q - 97) from rfl)
          rw [E.out] at b2
          generalize bt s q = x at *
          obtain ⟨y, hy⟩ : ∃ y, x = y + 97 := ⟨x - 97, by omega⟩
          have hy8 : y < 8 := by omega
          have e1 : IntKind.u8.wrap ((x : Int) - 97) = (y : Int) := by rw [IntKind.wrap_u8']; omega
          have y8 : (y : Int) < 8 := by omega
          obtain ⟨bn, on, rfl, hn⟩ := (HL.out.gr GB.out).at (show 0 < 8 by omega)
          have cn := hn y hy8
          rw [show x - 97 = y by omega] at b2 E
          generalize l y = ly at *
          generalize csm l s q = pq at *
          have e2 : IntKind.i64.wrap (pq + ly) = pq + ly := IntWalk.i64_in _ (by omega)
          have e3 : wrap64 (pq + ly) = pq + ly := IntWalk.wrap64_in _ (by omega)
          clear b1 b2 hn hy l2
          go_wp2_with fail
          go_roundw
          case rel => exact ⟨q + 1, hlq, by rw [← E.out], by go_num, by trivial⟩
          case measure => simp [intOf]; omega
        · obtain rfl : q = s.size := by omega
          have i2 : ¬ (s.size : Int) < (s.size : Int) := by omega
          clear LI BD
          rw [← CK.out]
          generalize csP l f k = z at *
          clear CK
          by_cases h0 : k = 0
          · have E2 := Lib.hid (MK.out.trans (if_pos (.inl h0)))
            have c0 : ((k : Int) == 0) = true := by simp [h0]
            clear MK h0
            go_wp2_with fail
            go_roundw
            case rel => exact ⟨k + 1, hlt, by rw [E2.out], by go_num, GB⟩
            case measure => simp [intOf]; omega
          · have c0 : ((k : Int) == 0) = false := by simp; omega
            by_cases h1 : z < mk
            · have E2 := Lib.hid (MK.out.trans (if_pos (.inr h1)))
              clear MK h0
              go_wp2_with fail
              go_roundw
              case rel => exact ⟨k + 1, hlt, by rw [E2.out], by go_num, GB⟩
              case measure => simp [intOf]; omega
            · have E2 := Lib.hid (MK.out.trans (if_neg (fun h => h.elim h0 h1)))
              clear MK h0
              go_wp2_with fail
              go_roundw
              case rel => exact ⟨k + 1, hlt, by rw [E2.out], by go_num, GB⟩
              case measure => simp [intOf]; omega
    · obtain rfl : k = n := by omega
      have i1 : ¬ (k : Int) < (k : Int) := by omega
      go_wp2_with fail
      go_ret
      exact ⟨rfl, hG.out⟩

end Go.Proofs.YtehdemcfeoiecaaDoor
