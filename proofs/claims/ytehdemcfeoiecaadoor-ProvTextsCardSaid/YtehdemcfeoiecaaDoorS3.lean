/- The library's sort at bytes: heapSort. -/
import Derived.Test.YtehdemcfeoiecaaDoorS2
namespace Go.Proofs.YtehdemcfeoiecaaDoor
open Go.RowKit Go.Firn Go.Sort

theorem sift_size (hi F : Nat) : ∀ (m r : Nat) (d : Array Int), hi - r ≤ m → (siftDown ltInt hi F r d).size = d.size
  | 0, r, d, h => by rw [sift_end (by omega)]
  | m + 1, r, d, h => by
    by_cases h1 : hi ≤ 2 * r + 1
    · rw [sift_end h1]
    by_cases h2 : 2 * r + 2 < hi ∧ d[F + (2 * r + 1)]! < d[F + (2 * r + 1) + 1]!
    · rw [sift_two h2.1 h2.2]
      split
      · rw [sift_size hi F m _ _ (by omega), size_swp]
      · rfl
    · rw [sift_one (by omega) (fun h3 h4 => h2 ⟨h3, h4⟩)]
      split
      · rw [sift_size hi F m _ _ (by omega), size_swp]
      · rfl
theorem build_size (hi F : Nat) : ∀ (k : Nat) (d : Array Int), (heapBuild ltInt hi F k d).size = d.size
  | 0, d => rfl
  | k + 1, d => by
    show (heapBuild ltInt hi F k (siftDown ltInt hi F k d)).size = _
    rw [build_size hi F k, sift_size hi F _ _ _ (Nat.le_refl _)]

set_option maxRecDepth 100000 in
set_option maxHeartbeats 8000000 in
theorem heap_any (b cap n a0 b0 : Nat) (d : Array Int) (w : World) (hd : d.size = n) (hn : n ≤ 1000000) (hab : a0 < b0) (hb : b0 ≤ n) (hw : RowB w b d) :
    Calls Tryd.prog 97 #[.slice (some ⟨b, 0, none⟩) n cap, .int .i64 a0, .int .i64 b0] w (RetW b (heapSort ltInt d a0 b0) w) := by
  have HW := Lib.hid hw
  have HD := Lib.hid hd
  obtain ⟨m, hm⟩ : ∃ m, b0 - a0 = m + 1 := ⟨b0 - a0 - 1, by omega⟩
  obtain ⟨M, hM⟩ : ∃ M, m + 1 = M := ⟨_, rfl⟩
  obtain ⟨q, hq⟩ : ∃ q, m / 2 = q := ⟨_, rfl⟩
  have HH := Lib.hid (show heapSort ltInt d a0 b0 = heapPop ltInt a0 M (heapBuild ltInt M a0 (q + 1) d) by unfold heapSort; rw [show b0 - a0 = M by omega, show (M - 1) / 2 = q by omega])
  have HF := Lib.hid (show a0 + M ≤ n ∧ M ≤ n ∧ m + 1 = M ∧ a0 < n ∧ q ≤ m by omega)
  have a0n : (a0 : Int) < (n : Int) := by omega
  have e1 : IntKind.i64.wrap ((b0 : Int) - (a0 : Int)) = (M : Int) := wsub (by omega) (by omega)
  have e2 : IntKind.i64.wrap ((M : Int) - 1) = (m : Int) := wsub1 (by omega) (by omega)
  have e3' : wrap64 ((m : Int) / 2) = (q : Int) := by rw [IntWalk.wrap64_in _ (by omega)]; omega
  clear hw hd hm hM hq hab hb
  go_enter Tryd.func97, Tryd.ntmps97
  go_wp2_with fail
  have E3 := Lib.hid e3'
  clear e1 e2 e3'
  go_loopw [9] (fun i wr => ∃ (k : Nat) (d1 : Array Int), i = .int .i64 ((k : Int) - 1) ∧ Hid (k ≤ q + 1) ∧ Hid (Wr b w wr) ∧ Hid (RowB wr b d1) ∧ Hid (d1.size = n) ∧ Hid (heapBuild ltInt M a0 k d1 = heapBuild ltInt M a0 (q + 1) d)) (fun i _ => (intOf i + 1).toNat)
  case atStart => exact ⟨q + 1, d, by congr 1; have := E3.out; omega, Lib.hid (Nat.le_refl _), Lib.hid (Wr.refl _ _), HW, HD, Lib.hid rfl⟩
  case round =>
    obtain ⟨k, d1, hik, hk, HW2, HR1, HD1, HE1⟩ := hrel
    cases k with
    | succ j =>
      obtain rfl : _ = Value.int .i64 (j : Int) := hik.trans (by congr 1 <;> omega)
      clear hik
      have i0 : (0 : Int) ≤ (j : Int) := by omega
      have e4 : IntKind.i64.wrap ((j : Int) - 1) = (j : Int) - 1 := IntWalk.i64_in _ (by have := hk.out; have := HF.out; omega)
      have CS := Lib.hid (sift_any b cap n j M a0 d1 wr HD1.out hn (by have := hk.out; have := HF.out; omega) HF.out.1 HR1.out)
      have HD3 := Lib.hid (show (siftDown ltInt M a0 j d1).size = n by rw [sift_size M a0 _ _ _ (Nat.le_refl _)]; exact HD1.out)
      have HE4 := Lib.hid (show heapBuild ltInt M a0 j (siftDown ltInt M a0 j d1) = heapBuild ltInt M a0 (q + 1) d from HE1.out)
      generalize siftDown ltInt M a0 j d1 = d3 at *
      go_wp2_with (go_at_call 126; (with_reducible refine CS.out.mono ?_); rintro e w1 ⟨rfl, gW, gR⟩; have GW := Lib.hid gW; have GR := Lib.hid gR; clear gW gR)
      go_roundw
      case rel => exact ⟨j, d3, rfl, Lib.hid (by have := hk.out; omega), Lib.hid (HW2.out.trans GW.out), GR, HD3, HE4⟩
      case measure => simp [intOf] <;> omega
    | zero =>
      obtain rfl : _ = Value.int .i64 (-1) := hik.trans (by simp)
      clear hik
      have HH2 := Lib.hid (show heapSort ltInt d a0 b0 = heapPop ltInt a0 M d1 by rw [HH.out, ← HE1.out]; rfl)
      have e5 : IntKind.i64.wrap ((M : Int) - 1) = (M : Int) - 1 := IntWalk.i64_in _ (by have := HF.out; omega)
      clear hk HE1 HH
      go_wp2_with fail
      go_loopw [10] (fun i wr' => ∃ (k : Nat) (d2 : Array Int), i = .int .i64 ((k : Int) - 1) ∧ Hid (k ≤ M) ∧ Hid (Wr b w wr') ∧ Hid (RowB wr' b d2) ∧ Hid (d2.size = n) ∧ Hid (heapSort ltInt d a0 b0 = heapPop ltInt a0 k d2)) (fun i _ => (intOf i + 1).toNat)
      case atStart => exact ⟨M, d1, rfl, Lib.hid (Nat.le_refl _), HW2, HR1, HD1, HH2⟩
      case round =>
        clear HW2 HR1 HD1 HH2 e5
        obtain ⟨k, d2, hik2, hk, HW2, HR1, HD1, HE1⟩ := hrel
        cases k with
        | succ j =>
          obtain rfl : _ = Value.int .i64 (j : Int) := hik2.trans (by congr 1 <;> omega)
          clear hik2
          have i0 : (0 : Int) ≤ (j : Int) := by omega
          have e4 : IntKind.i64.wrap ((j : Int) - 1) = (j : Int) - 1 := IntWalk.i64_in _ (by have := hk.out; have := HF.out; omega)
          obtain ⟨fj, hfj⟩ : ∃ fj, a0 + j = fj := ⟨_, rfl⟩
          have HJ := Lib.hid hfj
          have e6 : IntKind.i64.wrap ((a0 : Int) + (j : Int)) = (fj : Int) := wadd hfj (by have := hk.out; have := HF.out; omega)
          have i1 : (fj : Int) < (n : Int) := by have := hk.out; have := HF.out; omega
          have CS := Lib.hid (fun w1 (h : RowB w1 b (swp d2 a0 fj)) => show Calls Tryd.prog 126 #[.slice (some ⟨b, 0, none⟩) n cap, .int .i64 0, .int .i64 j, .int .i64 a0] w1 (RetW b (siftDown ltInt j a0 0 (swp d2 a0 fj)) w1) from sift_any b cap n 0 j a0 (swp d2 a0 fj) w1 (by rw [size_swp]; exact HD1.out) hn (by omega) (by have := hk.out; have := HF.out; omega) h)
          have HD3 := Lib.hid (show (siftDown ltInt j a0 0 (swp d2 a0 fj)).size = n by rw [sift_size j a0 _ _ _ (Nat.le_refl _), size_swp]; exact HD1.out)
          have HE4 := Lib.hid (show heapSort ltInt d a0 b0 = heapPop ltInt a0 j (siftDown ltInt j a0 0 (swp d2 a0 fj)) by rw [HE1.out, ← HJ.out]; rfl)
          obtain ⟨cj, fjz⟩ := HR1.out a0 (by rw [HD1.out]; omega)
          obtain ⟨cp, fpz⟩ := HR1.out fj (by rw [HD1.out]; omega)
          have HS := Lib.hid (HR1.out.swap (i := a0) (j := fj) (by rw [HD1.out]; omega) (by rw [HD1.out]; omega))
          generalize siftDown ltInt j a0 0 (swp d2 a0 fj) = d3 at *
          generalize swp d2 a0 fj = d4 at *
          by_cases hz : a0 = fj
          · subst hz
            generalize d2[a0]! = x at *
            clear hfj HE1 HR1 HD1 cp fpz
            have cp2 := cell_near cj (.int .u8 x)
            have HSd := Lib.hid (show RowB ((wr.setCell ⟨b, a0, none⟩ (.int .u8 x)).setCell ⟨b, a0, none⟩ (.int .u8 x)).drew b d4 from HS.out)
            go_wp2_with fail
            go_region
            all_goals (go_wp2_with (go_at_call 126; (with_reducible refine (CS.out _ HSd.out).mono ?_); rintro e w1 ⟨rfl, gW, gR⟩; have GW := Lib.hid gW; have GR := Lib.hid gR; clear gW gR))
            go_roundw
            case rel => exact ⟨j, d3, rfl, Lib.hid (by have := hk.out; omega), Lib.hid (((HW2.out.set a0 _).set a0 _).drew.trans GW.out), GR, HD3, HE4⟩
            case measure => simp [intOf] <;> omega
          · have HN := Lib.hid (show a0 ≠ fj from hz)
            generalize d2[a0]! = x at *
            generalize d2[fj]! = y at *
            clear hfj HE1 HR1 HD1 hz
            have cp2 := cell_by (k := a0) cp HN.out (.int .u8 y)
            have cj2 := cell_by (k := fj) cj HN.out.symm (.int .u8 x)
            have HSd := Lib.hid (show RowB ((wr.setCell ⟨b, a0, none⟩ (.int .u8 y)).setCell ⟨b, fj, none⟩ (.int .u8 x)).drew b d4 from HS.out)
            go_wp2_with fail
            go_region
            all_goals (go_wp2_with (go_at_call 126; (with_reducible refine (CS.out _ HSd.out).mono ?_); rintro e w1 ⟨rfl, gW, gR⟩; have GW := Lib.hid gW; have GR := Lib.hid gR; clear gW gR))
            go_roundw
            case rel => exact ⟨j, d3, rfl, Lib.hid (by have := hk.out; omega), Lib.hid (((HW2.out.set a0 _).set fj _).drew.trans GW.out), GR, HD3, HE4⟩
            case measure => simp [intOf] <;> omega
        | zero =>
          obtain rfl : _ = Value.int .i64 (-1) := hik2.trans (by simp)
          clear hik2
          go_wp2_with fail
          go_end0
          exact ⟨rfl, HW2.out, by rw [HE1.out]; exact HR1.out⟩

end Go.Proofs.YtehdemcfeoiecaaDoor
