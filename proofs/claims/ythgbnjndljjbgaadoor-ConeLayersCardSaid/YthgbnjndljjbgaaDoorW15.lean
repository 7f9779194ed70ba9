/- Contracts of chapter 2: all, first, First, Past, Before of the reference. -/
import Derived.Test.YthgbnjndljjbgaaDoorW14
namespace Go.Proofs.YthgbnjndljjbgaaDoor
open Go.RowKit Go.Firn

theorem Tryd.info4 : (Tryd.prog.info? 4).map (fun i => (i.zero, i.size, i.bytes)) = some (some (.bool false), 1, 1) := by kernel_rfl

/-- A row of bools. -/
def bV (f : Nat → Bool) (i : Nat) : Value := .bool (f i)

theorem refall_any (adr : Option Addr) (n c : Nat) (w : World) (hn : n ≤ 14) :
    Calls Tryd.prog 77 #[.slice adr n c] w fun e w' => ∃ bk, e = .returned (.slice (some ⟨bk, 0, none⟩) n n) ∧ RowG w' bk n (bV fun _ => true) ∧ Gr w w' ∧ w.heap.size ≤ bk := by
  obtain ⟨cs, hcs, _, mk0⟩ := made Tryd.underlying88 Tryd.info4 rfl (by omega) n (by omega)
  obtain ⟨bk, hbk⟩ : ∃ bk, bk = w.heap.size := ⟨_, rfl⟩
  have R0 := Lib.hid ((RowG.new (w := w) (e := 4) hbk.symm hcs).congr (V' := bV fun i => decide (i < 0)) fun i _ => by simp [bV])
  have G0 := Lib.hid ((Gr.refl w).alloc (.cells cs 4))
  have B0 := Lib.hid (show w.heap.size ≤ bk by omega)
  go_enter Tryd.func77, Tryd.ntmps77
  go_wp2
  rw [← hbk]
  clear hbk mk0 hcs
  go_loopw [4] (fun s wr => ∃ k : Nat, k ≤ n ∧ s = .int .i64 k ∧ Hid (RowG wr bk n (bV fun i => decide (i < k))) ∧ Hid (Gr w wr)) (fun s _ => n - (intOf s).toNat)
  case atStart => exact ⟨0, Nat.zero_le _, rfl, R0, G0⟩
  case round =>
    obtain ⟨k, hk, rfl, hR, hG⟩ := hrel
    by_cases hlt : k < n
    · obtain ⟨d1, d2⟩ := hR.out k hlt
      have k1 : (k : Int) < (n : Int) := by omega
      have R2 := Lib.hid ((hR.out.put (j := k) (.bool true)).congr (V' := bV fun i => decide (i < k + 1)) fun i _ => by
        show (if i = k then _ else bV _ i) = _
        unfold bV
        by_cases e : i = k
        · rw [if_pos e]; have : decide (i < k + 1) = true := decide_eq_true (by omega)
          show Value.bool true = Value.bool (decide (i < k + 1))
          rw [this]
        · rw [if_neg e]; have : decide (i < k) = decide (i < k + 1) := by congr 1; apply propext; omega
          show Value.bool (decide (i < k)) = Value.bool (decide (i < k + 1))
          rw [this])
      have G2 := Lib.hid (hG.out.setAt (b := bk) (j := k) B0.out (.bool true))
      go_wp2_with fail
      go_roundw
      case rel => exact ⟨k + 1, hlt, by go_num, R2, G2⟩
      case measure => simp [intOf]; omega
    · obtain rfl : k = n := by omega
      go_wp2_with fail
      go_ret
      exact ⟨bk, rfl, hR.out.congr fun i hi => congrArg Value.bool (decide_eq_true hi), hG.out, B0.out⟩

theorem nf_at {p : Nat → Bool} {n k : Nat} (hk : k < n) (hp : p k = true) : nf (els p n) (els p k).length = (k : Int) := by
  unfold nf
  rw [els_at hk hp]

set_option maxHeartbeats 1000000 in
theorem first_any (adr : Option Addr) (n c : Nat) (P T : Nat → Int) (V : VH n P T) (bk cc : Nat) (left : Nat → Bool) (w : World) (hh : RdM w adr n P T) (hr : RowG w bk n (bV left)) :
    Calls Tryd.prog 76 #[.slice adr n c, .slice (some ⟨bk, 0, none⟩) n cc] w (RetL (firstL n P T left) w) := by
  have hn := V.few
  have HV := Lib.hid V
  have HH := Lib.hid hh
  have HR := Lib.hid hr
  unfold firstL
  clear V hh hr
  go_enter Tryd.func76, Tryd.ntmps76
  go_wp2
  go_loopw [5, 6] (fun v s wr => ∃ k : Nat, k ≤ n ∧ s = .int .i64 k ∧ OwnI w 3 wr v (els (frB n P T left) k).length (nf (els (frB n P T left) n))) (fun _ s _ => n - (intOf s).toNat)
  case atStart => exact ⟨0, Nat.zero_le _, rfl, OwnI.nil w 3 _⟩
  case round =>
    obtain ⟨k, hk, rfl, hown⟩ := hrel
    by_cases hlt : k < n
    · have lk := (((HR.out.gr hown.2)) k hlt).1
      unfold bV at lk
      have k1 : (k : Int) < (n : Int) := by omega
      have J0 := Lib.hid (frJ_zero P T left k)
      go_wp2_with fail
      go_loopw [7, 8] (fun v7 s wx => ∃ j : Nat, j ≤ n ∧ s = .int .i64 j ∧ v7 = .bool (frJ P T left k j) ∧ Hid (Gr wr wx)) (fun _ s _ => n - (intOf s).toNat)
      case atStart => exact ⟨0, Nat.zero_le _, rfl, by rw [J0.out], Gr.refl _⟩
      case round =>
        obtain ⟨j, hj, rfl, rfl, hg⟩ := hrel
        clear lk
        by_cases hl2 : j < n
        · have FS := Lib.hid (frJ_succ P T left k j)
          have j1 : (j : Int) < (n : Int) := by omega
          cases hf : frJ P T left k j with
          | false =>
            have F2 := Lib.hid (show frJ P T left k (j + 1) = false by rw [FS.out, hf]; rfl)
            clear hf
            go_wp2_with fail
            go_roundw
            case rel => exact ⟨j + 1, hl2, by go_num, by rw [F2.out], hg⟩
            case measure => simp [intOf]; omega
          | true =>
            have lj := (((HR.out.gr hown.2).gr hg.out) j hl2).1
            unfold bV at lj
            cases hL : left j with
            | false =>
              have F2 := Lib.hid (show frJ P T left k (j + 1) = true by rw [FS.out, hf, hL]; rfl)
              rw [hL] at lj
              clear hf hL
              go_wp2_with fail
              go_roundw
              case rel => exact ⟨j + 1, hl2, by go_num, by rw [F2.out], hg⟩
              case measure => simp [intOf]; omega
            | true =>
              rw [hL] at lj
              have C := Lib.hid (fun w' hr => before_b adr n c P T w' HV.out j k hl2 hlt hr)
              cases hb : bf P T j k with
              | false =>
                have F2 := Lib.hid (show frJ P T left k (j + 1) = true by rw [FS.out, hf, hL, hb]; rfl)
                rw [hb] at C
                clear hf hL hb
                go_wp2_with (go_at_call 60; refine (C.out _ ((HH.out.gr hown.2).gr hg.out)).mono ?_; rintro e w2 ⟨rfl, g2⟩)
                go_roundw
                case rel => exact ⟨j + 1, hl2, by go_num, by rw [F2.out], hg.out.trans g2⟩
                case measure => simp [intOf]; omega
              | true =>
                have F2 := Lib.hid (show frJ P T left k (j + 1) = false by rw [FS.out, hf, hL, hb]; rfl)
                rw [hb] at C
                clear hf hL hb
                go_wp2_with (go_at_call 60; refine (C.out _ ((HH.out.gr hown.2).gr hg.out)).mono ?_; rintro e w2 ⟨rfl, g2⟩)
                go_roundw
                case rel => exact ⟨j + 1, hl2, by go_num, by rw [F2.out], hg.out.trans g2⟩
                case measure => simp [intOf]; omega
        · obtain rfl : j = n := by omega
          rw [frJ_end]
          have ow := hown.gr hg.out
          cases hb : frB j P T left k with
          | true =>
            have E := Lib.hid (nf_at (p := frB j P T left) hlt hb)
            have S := Lib.hid (show (els (frB j P T left) (k + 1)).length = (els (frB j P T left) k).length + 1 by rw [els_succ]; simp [hb])
            have K := Lib.hid (show (els (frB j P T left) k).length < 1000000000 by have := cnt_le (frB j P T left) k; rw [els_length]; omega)
            clear hb
            go_wp2_with (at_builtin; go_must (refine wpList_app_int rfl _ _ 23 3 rfl Tryd.underlying23 Tryd.info3 _ _ _ rfl (ow.alloc _) _ _ rfl (cell_new1 _ _ _) E.out K.out ?_); intro v1 w1 hown1 _)
            go_roundw
            case rel => exact ⟨k + 1, hlt, by go_num, by rw [S.out]; exact hown1⟩
            case measure => simp [intOf]; omega
          | false =>
            have S := Lib.hid (show els (frB j P T left) (k + 1) = els (frB j P T left) k by rw [els_succ]; simp [hb])
            clear hb
            go_wp2_with fail
            go_roundw
            case rel => exact ⟨k + 1, hlt, by go_num, by rw [S.out]; exact ow⟩
            case measure => simp [intOf]; omega
    · obtain rfl : k = n := by omega
      go_wp2_with fail
      go_ret
      obtain ⟨a, c, rfl, h1, h2, h3⟩ := hown.rd
      exact ⟨a, c, rfl, h1, h2, h3, hown.2⟩

theorem refFirst_any (adr : Option Addr) (n c : Nat) (P T : Nat → Int) (w : World) (hn : n ≤ 1000) (hr : RdM w adr n P T) :
    Calls Tryd.prog 29 #[.slice adr n c] w (RetLE (firG n P T) (errH n P T) w) := by
  have HR := Lib.hid hr
  clear hr
  cases hv : vH n P T with
  | false =>
    have HV := Lib.hid hv
    have e1 : firG n P T = [] := by unfold firG; rw [hv]; rfl
    have e2 : errH n P T = 20 := by unfold errH; rw [hv]; rfl
    rw [e1, e2]
    clear hv e1 e2
    go_enter Tryd.func29, Tryd.ntmps29
    go_wp2_with (go_at_call 27; refine (refValid_any adr n c P T _ hn HR.out).mono ?_; rintro e w1 h1; obtain ⟨rfl, g1⟩ := h1.gr; clear h1; rw [HV.out])
    go_ret2
    exact ⟨none, 0, rfl, Nat.le_refl _, by unfold maxLen; omega, .inl rfl, g1⟩
  | true =>
    have HV := Lib.hid (vH_iff.1 hv)
    have EV := Lib.hid hv
    have hf := HV.out.few
    have e1 : firG n P T = firstL n P T (fun _ => true) := by unfold firG; rw [hv]; rfl
    have e2 : errH n P T = 0 := by unfold errH; rw [hv]; rfl
    rw [e1, e2]
    have C1 := Lib.hid (fun w' bk hh hr => first_any adr n c P T HV.out bk n (fun _ => true) w' hh hr)
    generalize firstL n P T (fun _ => true) = v at C1
    clear hv e1 e2
    go_enter Tryd.func29, Tryd.ntmps29
    go_wp2_with (first
      | (go_at_call 27; refine (refValid_any adr n c P T _ hn HR.out).mono ?_; rintro e w1 h1; obtain ⟨rfl, g1⟩ := h1.gr; clear h1; rw [EV.out])
      | (go_at_call 77; refine (refall_any adr n c _ hf).mono ?_; rintro e w2 ⟨bk, rfl, ra, g2, _⟩; have RA := Lib.hid ra; have G2 := Lib.hid (g1.trans g2); clear ra)
      | (go_at_call 76; refine (C1.out _ _ (HR.out.gr G2.out) RA.out).mono ?_; rintro e w3 ⟨a, c, rfl, r1, r2, r3, g3⟩))
    go_ret2
    exact ⟨a, c, rfl, r1, r2, r3, G2.out.trans g3⟩

end Go.Proofs.YthgbnjndljjbgaaDoor
