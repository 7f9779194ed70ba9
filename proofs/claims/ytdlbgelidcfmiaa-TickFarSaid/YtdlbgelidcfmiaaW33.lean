/- Contracts of chapter 1: whether two clocks have the same time everywhere. -/
import Derived.Test.YtdlbgelidcfmiaaW32
namespace Go.Proofs.Ytdlbgelidcfmiaa
open Go.RowKit Go.Firn

def RetBE (b : Bool) (err : Int) (w : World) (e : Ending) (w' : World) : Prop := e = .returned (.tuple #[.bool b, .int .i64 err]) ∧ Gr w w'

set_option maxRecDepth 100000 in
theorem Same_ok (a a' : Option Addr) (n c n' c' : Nat) (L T L' T' : Nat → Int) (w : World) (hr : RdM w a n L T) (hr' : RdM w a' n' L' T') (hv : vK n L T = true) (hv' : vK n' L' T' = true) :
    Calls Try.prog 52 #[.slice a n c, .slice a' n' c'] w fun e w' => ∃ m, IsMx (apN n L T n' L' T') (apD n L T n' L' T') (WS 0 100000 (px (pairs n L T ++ pairs n' L' T')) (n + n')) m ∧ RetBE (decide (apN n L T n' L' T' m = 0)) 0 w e w' := by
  have CA := Lib.hid (Apart_ok a a' n c n' c' L T L' T' 0 100000 w hr hr' hv hv' (by omega) (by omega) (by omega))
  clear hv hv'
  generalize apN n L T n' L' T' = p at *
  generalize apD n L T n' L' T' = q at *
  generalize WS 0 100000 (px (pairs n L T ++ pairs n' L' T')) (n + n') = W at *
  go_enter Try.func52, Try.ntmps52
  go_wp2_with fail
  refine CA.out.mono ?_
  rintro e w1 ⟨m, hm, rfl, g⟩
  have HM := Lib.hid hm
  clear hm
  have B7 := (Box2.new (w := w1) (e := 37) (x := p m) (y := q m) rfl).1
  go_wp2_with fail
  go_ret2
  exact ⟨m, HM.out, rfl, g.alloc _⟩

set_option maxRecDepth 100000 in
theorem Same_no (a a' : Option Addr) (n c n' c' : Nat) (L T L' T' : Nat → Int) (w : World) (hn : n ≤ 9223372036854775807) (hn' : n' ≤ 9223372036854775807) (hr : RdM w a n L T) (hr' : RdM w a' n' L' T') (hv : (vK n L T && vK n' L' T') = false) :
    Calls Try.prog 52 #[.slice a n c, .slice a' n' c'] w (RetBE false 11 w) := by
  have CA := Lib.hid (show Calls Try.prog 50 #[.slice a n c, .slice a' n' c', .int .i64 0, .int .i64 100000] w (RetIRE 0 0 0 11 w) by
    cases h : vK n L T with
    | false => exact Apart_no1 a a' n c n' c' L T L' T' 0 100000 w hn hn' hr hr' h
    | true =>
      rw [h] at hv
      exact Apart_no2 a a' n c n' c' L T L' T' 0 100000 w hn hn' hr hr' h (by simpa using hv))
  clear hv
  go_enter Try.func52, Try.ntmps52
  go_wp2_with fail
  refine CA.out.mono ?_
  rintro e w1 ⟨rfl, g⟩
  go_wp2_with fail
  go_ret2
  exact ⟨rfl, g.alloc _⟩

/-- The places that the reference looks at. -/
def smX (n : Nat) (L L' : Nat → Int) (i : Nat) : Int := if i = 0 then -1 else if i = 1 then 100001 else if i < n + 2 then L (i - 2) else L' (i - (n + 2))

set_option maxRecDepth 100000 in
set_option maxHeartbeats 1000000 in
theorem refSame_ok (a a' : Option Addr) (n c n' c' : Nat) (L T L' T' : Nat → Int) (w : World) (hr : RdM w a n L T) (hr' : RdM w a' n' L' T') (hv : vK n L T = true) (hv' : vK n' L' T' = true) :
    Calls Try.prog 53 #[.slice a n c, .slice a' n' c'] w fun e w' => ∃ b, (b = true ↔ ∀ i, i < n + n' + 2 → AN n L T (smX n L L' i) = AN n' L' T' (smX n L L' i) ∧ AD n L T (smX n L L' i) = AD n' L' T' (smX n L L' i)) ∧ RetBE b 0 w e w' := by
  obtain ⟨hn2, hn30, hB, -⟩ := vK_true.1 hv
  obtain ⟨hn2', hn30', hB', -⟩ := vK_true.1 hv'
  have XB := Lib.hid (show ∀ i, i < n + n' + 2 → -200000 ≤ smX n L L' i ∧ smX n L L' i ≤ 200000 from fun i hi => by
    unfold smX
    split
    · omega
    · split
      · omega
      · split
        · have := hB (i - 2) (by omega); omega
        · have := hB' (i - (n + 2)) (by omega); omega)
  have X0 := Lib.hid (show smX n L L' 0 = -1 ∧ smX n L L' 1 = 100001 from ⟨rfl, rfl⟩)
  have X1 := Lib.hid (show ∀ k, k < n → smX n L L' (2 + k) = L k from fun k hk => by
    unfold smX; rw [if_neg (by omega), if_neg (by omega), if_pos (by omega)]; congr 1; omega)
  have X2 := Lib.hid (show ∀ k, k < n' → smX n L L' (2 + n + k) = L' k from fun k hk => by
    unfold smX; rw [if_neg (by omega), if_neg (by omega), if_neg (by omega)]; congr 1; omega)
  have R1 := Lib.hid (fun x (hx : -200000 ≤ x ∧ x ≤ 200000) w1 h => refat_any a n c L T x w1 (by omega) h hv hx)
  have R2 := Lib.hid (fun x (hx : -200000 ≤ x ∧ x ≤ 200000) w1 h => refat_any a' n' c' L' T' x w1 (by omega) h hv' hx)
  have V1 := Lib.hid (fun w1 h => show Calls Try.prog 34 #[.slice a n c] w1 (RetB true w1) by have := refValidClock_any a n c L T w1 (by omega) h; rwa [hv] at this)
  have V2 := Lib.hid (fun w1 h => show Calls Try.prog 34 #[.slice a' n' c'] w1 (RetB true w1) by have := refValidClock_any a' n' c' L' T' w1 (by omega) h; rwa [hv'] at this)
  have HR := Lib.hid hr
  have HR' := Lib.hid hr'
  obtain ⟨b, o, rfl, hc⟩ := hr.at (k := 0) (by omega)
  obtain ⟨b', o', rfl, hc'⟩ := hr'.at (k := 0) (by omega)
  have HC := Lib.hid hc
  have HC' := Lib.hid hc'
  clear hv hv' hr hr' hc hc' hB hB'
  generalize smX n L L' = X at *
  generalize AN n L T = p at *
  generalize AD n L T = q at *
  generalize AN n' L' T' = p' at *
  generalize AD n' L' T' = q' at *
  go_enter Try.func53, Try.ntmps53
  go_wp2_with fail
  refine (V1.out _ HR.out).mono ?_
  rintro e w1 ⟨rfl, g1⟩
  go_wp2_with fail
  refine (V2.out _ (HR'.out.gr g1)).mono ?_
  rintro e w2 ⟨rfl, g2⟩
  replace g1 := g1.trans g2
  clear g2
  have OW : Hid (OwnI w 3 (w2.alloc (.cells #[.int .i64 (-1), .int .i64 100001] 3)) (.slice (some ⟨w2.heap.size, 0, none⟩) 2 2) (2 + 0) X) := Lib.hid (OwnI.lit2 g1 _ _ _ X0.out.1 X0.out.2)
  go_wp2_with fail
  go_loopw [6, 8, 24] (fun sv _ i wr => ∃ k : Nat, k ≤ n ∧ i = .int .i64 k ∧ Hid (OwnI w 3 wr sv (2 + k) X)) (fun _ _ i _ => n - (intOf i).toNat)
  case atStart => exact ⟨0, by omega, rfl, OW⟩
  case round =>
    obtain ⟨k, hk, rfl, hown⟩ := hrel
    clear OW
    by_cases hlt : k < n
    · have c0 := hown.out.2.cell (HC.out k hlt).1
      have c1 := hown.out.2.cell (HC.out k hlt).2
      have E := Lib.hid (X1.out k hlt)
      go_wp2_with (at_builtin; go_must (refine wpList_app_int rfl _ _ 22 3 rfl Try.underlying22 Try.info3 _ (2 + k) _ rfl ((hown.out.alloc _).alloc _) (wr.heap.size + 1) _ rfl (cell_new1' _ _ _ _ (by simp)) E.out (by omega) ?_); intro v1 w4 hown1 _)
      go_roundw
      case rel => exact ⟨k + 1, by omega, by go_num, hown1⟩
      case measure => simp [intOf]; omega
    · obtain rfl : k = n := by omega
      go_wp2_with fail
      go_loopw [6, 10, 36] (fun sv _ i wr => ∃ j : Nat, j ≤ n' ∧ i = .int .i64 j ∧ Hid (OwnI w 3 wr sv (2 + k + j) X)) (fun _ _ i _ => n' - (intOf i).toNat)
      case atStart => exact ⟨0, by omega, rfl, hown⟩
      case round =>
        obtain ⟨j, hj, rfl, hown⟩ := hrel
        by_cases hlt2 : j < n'
        · have c0 := hown.out.2.cell (HC'.out j hlt2).1
          have c1 := hown.out.2.cell (HC'.out j hlt2).2
          have E := Lib.hid (X2.out j hlt2)
          go_wp2_with (at_builtin; go_must (refine wpList_app_int rfl _ _ 22 3 rfl Try.underlying22 Try.info3 _ (2 + k + j) _ rfl ((hown.out.alloc _).alloc _) (wr.heap.size + 1) _ rfl (cell_new1' _ _ _ _ (by simp)) E.out (by omega) ?_); intro v1 w4 hown1 _)
          go_roundw
          case rel => exact ⟨j + 1, by omega, by go_num, hown1⟩
          case measure => simp [intOf]; omega
        · obtain rfl : j = n' := by omega
          obtain ⟨a5, c5, rfl, -, -, hr5⟩ := hown.out.rd
          obtain ⟨b5, o5, rfl, hc5⟩ := hr5.at (k := 0) (by omega)
          have H5 := Lib.hid hc5
          have g5 := hown.out.2
          clear hc5 hr5 hown
          have hm : 2 + k + j = k + j + 2 := by omega
          rw [hm] at H5 ⊢
          clear hm
          generalize hm : k + j + 2 = m at *
          have hm62 : m ≤ 62 := by omega
          go_wp2_with fail
          go_loopw [12, 48] (fun _ i wx => ∃ t : Nat, t ≤ m ∧ i = .int .i64 t ∧ Hid (∀ i, i < t → p (X i) = p' (X i) ∧ q (X i) = q' (X i)) ∧ Gr wr wx) (fun _ i _ => m - (intOf i).toNat)
          case atStart => exact ⟨0, by omega, rfl, fun i hi => by omega, Gr.refl _⟩
          case round =>
            obtain ⟨t, ht, rfl, hE, g⟩ := hrel
            by_cases hlt3 : t < m
            · have c0 := g.cell (H5.out t hlt3)
              go_wp2_with fail
              refine (R1.out _ (XB.out t hlt3) _ (HR.out.gr (g5.trans g))).mono ?_
              rintro e w6 ⟨rfl, g6⟩
              go_wp2_with fail
              refine (R2.out _ (XB.out t hlt3) _ (HR'.out.gr ((g5.trans g).trans g6))).mono ?_
              rintro e w7 ⟨rfl, g7⟩
              replace g := (g.trans g6).trans g7
              clear g6 g7 c0
              by_cases h1 : p (X t) = p' (X t)
              · by_cases h2 : q (X t) = q' (X t)
                · have d1 : decide (p (X t) = p' (X t)) = true := by simp; exact h1
                  have d2 : decide (q (X t) = q' (X t)) = true := by simp; exact h2
                  have HE := Lib.hid (show ∀ i, i < t + 1 → p (X i) = p' (X i) ∧ q (X i) = q' (X i) from fun i hi => by
                    rcases Nat.lt_or_eq_of_le (Nat.le_of_lt_succ hi) with hi | rfl
                    · exact hE.out i hi
                    · exact ⟨h1, h2⟩)
                  rw [← h1, ← h2]
                  clear h1 h2 d1 d2
                  go_wp2_with fail
                  go_roundw
                  case rel => exact ⟨t + 1, by omega, by go_num, HE, g⟩
                  case measure => simp [intOf]; omega
                · have HN := Lib.hid (show ¬ ∀ i, i < m → p (X i) = p' (X i) ∧ q (X i) = q' (X i) from fun h => h2 (h t hlt3).2)
                  clear h1
                  go_wp2_with fail
                  go_ret2
                  exact ⟨false, ⟨fun h => (by cases h), fun h => (HN.out (by rw [← hm]; exact h)).elim⟩, rfl, g5.trans g⟩
              · have HN := Lib.hid (show ¬ ∀ i, i < m → p (X i) = p' (X i) ∧ q (X i) = q' (X i) from fun h => h1 (h t hlt3).1)
                go_wp2_with fail
                go_ret2
                exact ⟨false, ⟨fun h => (by cases h), fun h => (HN.out (by rw [← hm]; exact h)).elim⟩, rfl, g5.trans g⟩
            · obtain rfl : t = m := by omega
              go_wp2_with fail
              go_ret2
              exact ⟨true, ⟨fun _ => (by rw [hm]; exact hE.out), fun _ => rfl⟩, rfl, g5.trans g⟩
end Go.Proofs.Ytdlbgelidcfmiaa
