/- Contracts of chapter 2: the row of the heights, slices.Max, the longest chain. -/
import Derived.Test.YtjokheeegcilhaaDoorW33
namespace Go.Proofs.YtjokheeegcilhaaDoor
open Go.RowKit Go.Firn

set_option maxHeartbeats 2000000 in
set_option maxRecDepth 20000 in
theorem heights_any {n p b1 b2 : Nat} {P T : Nat → Int} (hp : 1 ≤ n) (hn : n ≤ 14) (w : World) (hT : Tab w) (O : OrdB w p b1 b2 n (pastM n P T) (futM n P T)) :
    Calls Tryd.prog 105 #[.pointer (some ⟨p, 0, none⟩)] w fun e w' => ∃ bo, e = .returned (.slice (some ⟨bo, 0, none⟩) n n) ∧ RowG w' bo n (iV (ht n P T)) ∧ Gr w w' ∧ w.heap.size ≤ bo := by
  have hmf : ∀ (fn : Fn) (first cap : Array Value) (w : World), (Instr.makeFunc fn first cap).run Tryd.prog w = .ok (.func fn first cap) w := fun _ _ _ _ => rfl
  obtain ⟨cs, hcs, _, mk0⟩ := made Tryd.underlying23 Tryd.info3 rfl (by omega) n (by omega)
  have HO := Lib.hid O
  have TT := Lib.hid hT
  have c0 := ((Gr.refl w).alloc (.cells #[.pointer (some ⟨p, 0, none⟩)] 68)).cell O.c0
  clear O hT
  obtain ⟨s, hs⟩ : ∃ s, s = w.heap.size := ⟨_, rfl⟩
  obtain ⟨W4, hW4⟩ : ∃ W4, W4 = ((((w.alloc (.cells #[.pointer (some ⟨p, 0, none⟩)] 68)).alloc (.cells cs 3)).alloc (.cells #[.slice (some ⟨s + 1, 0, none⟩) n n] 23)).alloc
      (.cells #[.func (.func 115) #[] #[.pointer (some ⟨s + 1 + 1, 0, none⟩), .pointer (some ⟨s, 0, none⟩), .pointer (some ⟨s + 1 + 1 + 1, 0, none⟩)]] 121)) := ⟨_, rfl⟩
  have G4 := Lib.hid (show Gr w W4 from by rw [hW4]; exact ((((Gr.refl w).alloc _).alloc _).alloc _).alloc _)
  have HX := Lib.hid (show p ≠ s + 1 ∧ b1 ≠ s + 1 ∧ b2 ≠ s + 1 ∧ s + 1 + 1 ≠ s + 1 ∧ s ≠ s + 1 ∧ s + 1 + 1 + 1 ≠ s + 1 ∧ 0 ≠ s + 1 from by
    have l0 : p < w.heap.size := World.block_lt_of_cell? w _ HO.out.c0
    have l1 : b1 < w.heap.size := World.block_lt_of_cell? w _ (HO.out.r1 0 hp).1
    have l2 : b2 < w.heap.size := World.block_lt_of_cell? w _ (HO.out.r2 0 hp).1
    omega)
  have E4 := Lib.hid (show HE W4 p b1 b2 (s + 1) (s + 1 + 1) s (s + 1 + 1 + 1) n P T from by
    refine ⟨HO.out.gr G4.out, TT.out.gr G4.out, ?_, ?_, ?_⟩
    · rw [hW4]; exact (((Gr.refl (((w.alloc _).alloc _).alloc _)).alloc _).fresh' (by simp [hs]) rfl).1
    · rw [hW4]; exact (((((Gr.refl (w.alloc _)).alloc _).alloc _).alloc _).fresh' (by simp [hs]) rfl).1
    · rw [hW4]; exact ((Gr.refl ((((w.alloc _).alloc _).alloc _).alloc _)).fresh' (by simp [hs]) rfl).1)
  have R4 := Lib.hid (show RowG W4 (s + 1) n (iV fun _ => 0) from fun i hi => by
    rw [hW4]; exact ((((Gr.refl ((w.alloc _).alloc _)).alloc _).alloc _).fresh' (by simp [hs]) (hcs i hi)))
  have cs4 := E4.out.cs
  have SZ := Lib.hid (show w.heap.size ≤ s + 1 by omega)
  clear hcs
  go_enter Tryd.func105, Tryd.ntmps105
  go_wp2_with fail
  rw [← hs, ← hW4]
  clear hs hW4 mk0 c0 hmf
  generalize s + 1 + 1 + 1 = bt at *
  generalize s + 1 + 1 = bs at *
  generalize s + 1 = bo at *
  go_loopw [15] (fun sk wr => ∃ (k : Nat) (v : Nat → Nat), k ≤ n ∧ sk = .int .i64 k ∧ Hid (RowG wr bo n (iV v)) ∧ Hid (Memo n P T v) ∧ Hid (∀ j, j < k → v j = ht n P T j) ∧ Hid (Wx (fun k => k = bo) W4 wr)) (fun sk _ => n - (intOf sk).toNat)
  case atStart => exact ⟨0, _, Nat.zero_le _, rfl, R4, fun k _ => .inl rfl, fun j hj => by omega, Wx.refl _ _⟩
  case round =>
    obtain ⟨k, v, hk, rfl, hR, hM, hJ, hW⟩ := hrel
    have EE := Lib.hid (E4.out.wx hW.out HX.out.1 HX.out.2.1 HX.out.2.2.1 HX.out.2.2.2.1 HX.out.2.2.2.2.1 HX.out.2.2.2.2.2.1 HX.out.2.2.2.2.2.2)
    have ct := EE.out.ct
    have cs := EE.out.cs
    unfold htV at ct
    by_cases hlt : k < n
    · have C := Lib.hid (height_any hn HX.out (later n T k + 1) k v wr (Nat.lt_succ_self _) hlt EE.out hR.out hM.out)
      have k1 : (k : Int) < (n : Int) := by omega
      go_wp2_with (go_at_call 115; (with_reducible refine C.out.mono ?_); rintro e w3 ⟨rfl, gx, v3, q1, q2, q3, q4⟩; have W3 := Lib.hid (hW.out.trans gx); have R3 := Lib.hid q1; have M3 := Lib.hid q2; have J3 := Lib.hid (show ∀ j, j < k + 1 → v3 j = ht n P T j from fun j hj => by
        by_cases e : j = k
        · subst e; exact q4
        · exact q3 j (by omega) (hJ.out j (by omega))); clear gx q1 q2 q3 q4)
      go_roundw
      case rel => exact ⟨k + 1, v3, hlt, by go_num, R3, M3, J3, W3⟩
      case measure => simp [intOf]; omega
    · obtain rfl : k = n := by omega
      go_wp2_with fail
      go_ret
      exact ⟨bo, rfl, hR.out.congr fun i hi => by unfold iV; rw [hJ.out i hi], hW.out.gr G4.out (fun j hj => by rw [hj]; exact SZ.out), SZ.out⟩

set_option maxRecDepth 20000 in
theorem Max_any (bo n : Nat) (f : Nat → Nat) (w : World) (hp : 1 ≤ n) (hn : n ≤ 14) (hf : ∀ i, i < n → f i ≤ 1000) (hr : RowG w bo n (iV f)) :
    Calls Tryd.prog 106 #[.slice (some ⟨bo, 0, none⟩) n n] w fun e w' => e = .returned (.int .i64 (mx f n : Nat)) ∧ w = w' := by
  have HR := Lib.hid hr
  have c0 := (hr 0 hp).1
  rw [iV_cell] at c0
  have z1 : ¬ (n : Int) < 1 := by omega
  have M1 := Lib.hid (show ((mx f 1 : Nat) : Int) = ((f 0 : Nat) : Int) from by show ((max 0 (f 0) : Nat) : Int) = _; omega)
  clear hr
  go_enter Tryd.func106, Tryd.ntmps106
  go_wp2_with fail
  go_loopw [3, 4] (fun sm si wr => ∃ j : Nat, 1 ≤ j ∧ j ≤ n ∧ sm = .int .i64 (mx f j : Nat) ∧ si = .int .i64 j ∧ wr = w) (fun _ si _ => n - (intOf si).toNat)
  case atStart => exact ⟨1, by omega, hp, by rw [M1.out], rfl, rfl⟩
  case round =>
    obtain ⟨j, hj1, hj, rfl, rfl, rfl⟩ := hrel
    clear c0
    by_cases hlt : j < n
    · have cj := (HR.out j hlt).1
      rw [iV_cell] at cj
      have j1 : (j : Int) < (n : Int) := by omega
      have MX := Lib.hid (show ((mx f (j + 1) : Nat) : Int) = ((max (mx f j) (f j) : Nat) : Int) from rfl)
      generalize mx f j = m at MX
      generalize f j = q at cj MX
      go_wp2_with fail
      go_roundw
      case rel => exact ⟨j + 1, by omega, hlt, by rw [MX.out, ifmax], by go_num, trivial⟩
      case measure => simp [intOf]; omega
    · obtain rfl : j = n := by omega
      go_wp2_with fail
      go_ret
      exact ⟨rfl, rfl⟩

end Go.Proofs.YtjokheeegcilhaaDoor
