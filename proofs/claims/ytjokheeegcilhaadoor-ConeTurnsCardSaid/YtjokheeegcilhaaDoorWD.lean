/- Contracts of chapter 2: the list of a set and the first hits, with where the result lies. Contracts of chapter 2: the layers, of the program and of the reference; the same tables; Wide. Contracts of chapter 2: Layers of the program and of the reference. -/
import Derived.Test.YtjokheeegcilhaaDoorWC
import Derived.Test.YtjokheeegcilhaaDoorCow
import Derived.Test.YtjokheeegcilhaaDoorPA
namespace Go.Proofs.YtjokheeegcilhaaDoor
open Go.RowKit Go.Firn

/-- A slice of ints that holds these numbers, in a new block. -/
def RetLF (l : List Nat) (w : World) (e : Ending) (w' : World) : Prop :=
  ∃ a c, e = .returned (.slice a l.length c) ∧ l.length ≤ c ∧ c ≤ maxLen ∧ RdI w' a l.length (nf l) ∧ Gr w w' ∧ (l.length = 0 ∨ ∃ b o, a = some ⟨b, o, none⟩ ∧ b < w'.heap.size ∧ w.heap.size ≤ b)

theorem list_f (x : Nat) (w : World) (hx : x < 65536) (hT : Tab w) : Calls Tryd.prog 70 #[.int .u16 x] w (RetLF (els x.testBit 16) w) := by
  have HX := Lib.hid hx
  clear hx
  have HL := Lib.hid (show (els x.testBit 16).length ≤ 16 by rw [els_length]; exact cnt_le _ _)
  have HD := Lib.hid (show els x.testBit 16 = (els x.testBit 16).drop 0 from rfl)
  go_enter Tryd.func70, Tryd.ntmps70
  go_wp2
  go_loopw [0, 3] (fun s v wr => ∃ (y k : Nat), s = .int .u16 y ∧ Hid (y < 65536) ∧ Hid (k ≤ (els x.testBit 16).length) ∧ Hid (els y.testBit 16 = (els x.testBit 16).drop k) ∧ OwnI w 3 wr v k (nf (els x.testBit 16))) (fun s _ _ => (intOf s).toNat)
  case atStart => exact ⟨x, 0, rfl, HX, Nat.zero_le _, HD.out, OwnI.nil w 3 _⟩
  case round =>
    obtain ⟨y, k, rfl, hy, hk, hd, hown⟩ := hrel
    by_cases h0 : y = 0
    · subst h0
      have e1 : k = (els x.testBit 16).length := by
        have h1 := hd.out
        rw [els_nil] at h1
        have h2 := congrArg List.length h1
        have h3 := hk.out
        simp at h2
        omega
      go_wp2
      go_ret
      subst e1
      obtain ⟨a, c, rfl, h1, h2, h3, h4⟩ := hown.rdF
      exact ⟨a, c, rfl, h1, h2, h3, hown.2, h4⟩
    · have t1 : ((y : Int) != 0) = true := by simp; omega
      have st := els_step h0 (n := 16) hy.out
      rw [hd.out] at st
      have hlt : k < (els x.testBit 16).length := by
        rcases Nat.lt_or_ge k (els x.testBit 16).length with h | h
        · exact h
        · rw [List.drop_eq_nil_of_le h] at st; cases st
      have E := Lib.hid (show nf (els x.testBit 16) k = (Lib.ctz 16 y : Nat) by
        have := congrArg (fun l => l.getD 0 0) st
        simp [List.getD] at this
        simp [nf, List.getD, this])
      have D := Lib.hid (show els (y &&& (y - 1)).testBit 16 = (els x.testBit 16).drop (k + 1) by
        have := congrArg List.tail st
        simp at this
        exact this.symm)
      have K := Lib.hid (show k < 1000000000 by have := HL.out; omega)
      have w1 : IntKind.u16.wrap ((y : Int) - 1) = ((y - 1 : Nat) : Int) := by have := hy.out; rw [IntKind.wrap_u16]; omega
      have w2 : bits BinOp.and IntKind.u16 (y : Int) (IntKind.u16.wrap ((y : Int) - 1)) = ((y &&& (y - 1) : Nat) : Int) := by have := hy.out; rw [w1, u16_and_nat y _ (by omega) (by omega)]
      have Y := Lib.hid (show y &&& (y - 1) < 65536 from Nat.lt_of_le_of_lt Nat.and_le_left hy.out)
      have M := Lib.hid (and_pred_lt h0)
      clear w1 st
      have hlt' := Lib.hid hlt
      clear hlt
      go_wp2_with (first
        | (go_at_call 101; refine (tz_any y _ h0 hy.out (hT.gr hown.2)).mono ?_; rintro e w1 ⟨rfl, rfl⟩)
        | (at_builtin; go_must (refine wpList_app_int rfl _ _ 23 3 rfl Tryd.underlying23 Tryd.info3 _ k _ rfl (hown.alloc _) _ _ rfl (cell_new1 _ _ _) E.out K.out ?_); intro v1 w1 hown1 _))
      go_roundw
      case rel => exact ⟨y &&& (y - 1), k + 1, rfl, Y, hlt'.out, D, hown1⟩
      case measure => have := M.out; simp [intOf]; omega

set_option maxHeartbeats 1000000 in
theorem first_f (adr : Option Addr) (n c : Nat) (P T : Nat → Int) (V : VH n P T) (bk cc : Nat) (left : Nat → Bool) (w : World) (hh : RdM w adr n P T) (hr : RowG w bk n (bV left)) :
    Calls Tryd.prog 76 #[.slice adr n c, .slice (some ⟨bk, 0, none⟩) n cc] w (RetLF (firstL n P T left) w) := by
  have hn := V.few
  have HV := Lib.hid V
  have HH := Lib.hid hh
  have HR := Lib.hid hr
  unfold firstL
  clear V hh hr
  go_enter Tryd.func76, Tryd.ntmps76
  go_wp2
  go_loopw [5, 6] (fun v s wr => ∃ k : Nat, k ≤ n ∧ s = .int .i64 k ∧ OwnI w 3 wr v (els (frB n P T left) k).length (nf (els (frB n P T left) n))) (fun _ s _ => n - (intOf s).toNat)
  case atStart => exact ⟨0, Nat.zero_le _, rfl, OwnI.nil w 3 _⟩
  case round =>
    obtain ⟨k, hk, rfl, hown⟩ := hrel
    by_cases hlt : k < n
    · have lk := (((HR.out.gr hown.2)) k hlt).1
      unfold bV at lk
      have k1 : (k : Int) < (n : Int) := by omega
      have J0 := Lib.hid (frJ_zero P T left k)
      go_wp2_with fail
      go_loopw [7, 8] (fun v7 s wx => ∃ j : Nat, j ≤ n ∧ s = .int .i64 j ∧ v7 = .bool (frJ P T left k j) ∧ Hid (Gr wr wx)) (fun _ s _ => n - (intOf s).toNat)
      case atStart => exact ⟨0, Nat.zero_le _, rfl, by rw [J0.out], Gr.refl _⟩
      case round =>
        obtain ⟨j, hj, rfl, rfl, hg⟩ := hrel
        clear lk
        by_cases hl2 : j < n
        · have FS := Lib.hid (frJ_succ P T left k j)
          have j1 : (j : Int) < (n : Int) := by omega
          cases hf : frJ P T left k j with
          | false =>
            have F2 := Lib.hid (show frJ P T left k (j + 1) = false by rw [FS.out, hf]; rfl)
            clear hf
            go_wp2_with fail
            go_roundw
            case rel => exact ⟨j + 1, hl2, by go_num, by rw [F2.out], hg⟩
            case measure => simp [intOf]; omega
          | true =>
            have lj := (((HR.out.gr hown.2).gr hg.out) j hl2).1
            unfold bV at lj
            cases hL : left j with
            | false =>
              have F2 := Lib.hid (show frJ P T left k (j + 1) = true by rw [FS.out, hf, hL]; rfl)
              rw [hL] at lj
              clear hf hL
              go_wp2_with fail
              go_roundw
              case rel => exact ⟨j + 1, hl2, by go_num, by rw [F2.out], hg⟩
              case measure => simp [intOf]; omega
            | true =>
              rw [hL] at lj
              have C := Lib.hid (fun w' hr => before_b adr n c P T w' HV.out j k hl2 hlt hr)
              cases hb : bf P T j k with
              | false =>
                have F2 := Lib.hid (show frJ P T left k (j + 1) = true by rw [FS.out, hf, hL, hb]; rfl)
                rw [hb] at C
                clear hf hL hb
                go_wp2_with (go_at_call 60; refine (C.out _ ((HH.out.gr hown.2).gr hg.out)).mono ?_; rintro e w2 ⟨rfl, g2⟩)
                go_roundw
                case rel => exact ⟨j + 1, hl2, by go_num, by rw [F2.out], hg.out.trans g2⟩
                case measure => simp [intOf]; omega
              | true =>
                have F2 := Lib.hid (show frJ P T left k (j + 1) = false by rw [FS.out, hf, hL, hb]; rfl)
                rw [hb] at C
                clear hf hL hb
                go_wp2_with (go_at_call 60; refine (C.out _ ((HH.out.gr hown.2).gr hg.out)).mono ?_; rintro e w2 ⟨rfl, g2⟩)
                go_roundw
                case rel => exact ⟨j + 1, hl2, by go_num, by rw [F2.out], hg.out.trans g2⟩
                case measure => simp [intOf]; omega
        · obtain rfl : j = n := by omega
          rw [frJ_end]
          have ow := hown.gr hg.out
          cases hb : frB j P T left k with
          | true =>
            have E := Lib.hid (nf_at (p := frB j P T left) hlt hb)
            have S := Lib.hid (show (els (frB j P T left) (k + 1)).length = (els (frB j P T left) k).length + 1 by rw [els_succ]; simp [hb])
            have K := Lib.hid (show (els (frB j P T left) k).length < 1000000000 by have := cnt_le (frB j P T left) k; rw [els_length]; omega)
            clear hb
            go_wp2_with (at_builtin; go_must (refine wpList_app_int rfl _ _ 23 3 rfl Tryd.underlying23 Tryd.info3 _ _ _ rfl (ow.alloc _) _ _ rfl (cell_new1 _ _ _) E.out K.out ?_); intro v1 w1 hown1 _)
            go_roundw
            case rel => exact ⟨k + 1, hlt, by go_num, by rw [S.out]; exact hown1⟩
            case measure => simp [intOf]; omega
          | false =>
            have S := Lib.hid (show els (frB j P T left) (k + 1) = els (frB j P T left) k by rw [els_succ]; simp [hb])
            clear hb
            go_wp2_with fail
            go_roundw
            case rel => exact ⟨k + 1, hlt, by go_num, by rw [S.out]; exact ow⟩
            case measure => simp [intOf]; omega
    · obtain rfl : k = n := by omega
      go_wp2_with fail
      go_ret
      obtain ⟨a, c, rfl, h1, h2, h3, h4⟩ := hown.rdF
      exact ⟨a, c, rfl, h1, h2, h3, hown.2, h4⟩

end Go.Proofs.YtjokheeegcilhaaDoor

namespace Go.Proofs.YtjokheeegcilhaaDoor
open Go.RowKit Go.Firn

theorem Tryd.info23 : (Tryd.prog.info? 23).map (fun i => (i.zero, i.size, i.bytes)) = some (some (.slice none 0 0), 1, 24) := by kernel_rfl

/-- The layers of valid hits. -/
def RetLT (n : Nat) (P T : Nat → Int) (w : World) (e : Ending) (w' : World) : Prop :=
  ∃ a c m, e = .returned (.slice a m c) ∧ m ≤ c ∧ c ≤ maxLen ∧ LastL n P T m ∧ m ≤ n ∧ RdT w' a m (tr nf (layT n P T m)) ∧ Gr w w'

set_option maxHeartbeats 1000000 in
theorem layers_any {n p b1 b2 : Nat} {P T : Nat → Int} (hn : n ≤ 14) (w : World) (hT : Tab w) (O : OrdB w p b1 b2 n (pastM n P T) (futM n P T)) :
    Calls Tryd.prog 80 #[.pointer (some ⟨p, 0, none⟩)] w (RetLT n P T w) := by
  have HO := Lib.hid O
  have TT := Lib.hid hT
  have A0 := Lib.hid (fun w' O => by have := all_any (n := n) (p := p) (b1 := b1) (b2 := b2) (f := pastM n P T) (g := futM n P T) hn w' O; rw [← leftM_top n P T] at this; exact this)
  clear O hT
  go_enter Tryd.func80, Tryd.ntmps80
  go_wp2_with (go_at_call 75; refine (A0.out _ HO.out).mono ?_; rintro e w1 ⟨rfl, rfl⟩)
  go_loopw [3, 4] (fun v s wr => ∃ k : Nat, s = .int .u16 (leftM n P T k : Nat) ∧ OwnT w w.heap.size nf wr v (layT n P T k) ∧ Hid (∀ j, j < k → cnt (leftK n P T j) n ≠ 0)) (fun _ s _ => cnt (intOf s).toNat.testBit n)
  case atStart => exact ⟨0, rfl, OwnT.nil' (Gr.refl w) (Nat.le_refl _) (Nat.le_refl _) nf, fun j hj => by omega⟩
  case round =>
    obtain ⟨k, rfl, hown, hne⟩ := hrel
    have hle := left_le hne.out
    by_cases hz : leftM n P T k = 0
    · have hL : LastL n P T k := ⟨leftM_zero_iff.1 hz, hne.out⟩
      rw [hz]
      clear hz hne
      go_wp2_with fail
      go_ret
      obtain ⟨a, c, rfl, h1, h2, h3⟩ := hown.rd
      rw [layT_length] at h1 h3 ⊢
      exact ⟨a, c, k, rfl, h1, h2, hL, by omega, h3, hown.1.1⟩
    · have hc : cnt (leftK n P T k) n ≠ 0 := fun h => hz (leftM_zero_iff.2 h)
      have z1 : ((leftM n P T k : Nat) : Int) ≠ 0 := by omega
      have z2 : (((leftM n P T k : Nat) : Int) != 0) = true := by simpa using hz
      have p14 := pow14 hn
      have lt1 := leftM_lt n P T k
      have lt2 := freeM_lt n P T (leftM n P T k)
      have e1 : bits .andNot .u16 ((leftM n P T k : Nat) : Int) ((freeM n P T (leftM n P T k) : Nat) : Int) = ((leftM n P T (k + 1) : Nat) : Int) := by
        rw [u16_andNot_nat _ _ (by omega) (by omega), leftM_next hn]
      have C1 := Lib.hid (fun w' hT O => free_any (n := n) (p := p) (b1 := b1) (b2 := b2) (P := P) (T := T) hn (leftM n P T k) w' lt1 hT O)
      have C2 := Lib.hid (fun w' hT => by have := list_f (freeM n P T (leftM n P T k)) w' (by omega) hT; rw [layK1_free hn] at this; exact this)
      have LS := Lib.hid (layT_succ n P T k)
      have K := Lib.hid (show (layT n P T k).length < 1000000 by rw [layT_length]; omega)
      have NE := Lib.hid (show ∀ j, j < k + 1 → cnt (leftK n P T j) n ≠ 0 from fun j hj => by
        by_cases e : j = k
        · subst e; exact hc
        · exact hne.out j (by omega))
      have ME := Lib.hid (show cnt (leftM n P T (k + 1)).testBit n < cnt (leftM n P T k).testBit n by
        rw [fun_bit, fun_bit]
        have := left_cnt n P T k
        have := lay_pos hc
        omega)
      generalize freeM n P T (leftM n P T k) = fm at e1 C1 C2
      generalize layK1 n P T k = L at C2 LS
      clear hz hc hne p14 lt1 lt2
      go_wp2_with (first
        | (go_at_call 74; refine (C1.out _ (TT.out.gr hown.1.1) (HO.out.gr hown.1.1)).mono ?_; rintro e w2 ⟨rfl, g2⟩; have ow2 := Lib.hid (hown.gr g2))
        | (go_at_call 70; refine (C2.out _ (TT.out.gr ow2.out.1.1)).mono ?_; rintro e w3 ⟨a, c, rfl, r1, r2, r3, g3, r5⟩; have ow3 := Lib.hid (ow2.out.gr g3); have hy := Lib.hid (show Holds w.heap.size w3 u3 nf (.slice a L.length c) L from ⟨a, c, rfl, r1, r2, r3, r5.imp id (fun ⟨b, o, q1, q2, q3⟩ => ⟨b, o, q1, q2, fun q => by have := ow2.out.lt q.symm; omega, Nat.le_trans ow2.out.1.2.2 q3⟩)⟩))
        | (at_builtin; go_must (refine wpList_app_list rfl _ _ 43 rfl Tryd.underlying43 Tryd.info23 nf _ _ rfl (ow3.out.gr ((Gr.refl _).alloc _)) _ _ L rfl (cell_new1 _ _ _) (hy.out.gr ((Gr.refl _).alloc _)) K.out ?_); intro v1 w4 ow4 g4))
      go_roundw
      case rel => exact ⟨k + 1, rfl, by rw [LS.out]; exact ow4, NE.out⟩
      case measure => exact ME.out

end Go.Proofs.YtjokheeegcilhaaDoor

namespace Go.Proofs.YtjokheeegcilhaaDoor
open Go.RowKit Go.Firn

/-- How many layers Layers gives. -/
def lastG (n : Nat) (P T : Nat → Int) (m : Nat) : Prop := if vH n P T = true then LastL n P T m else m = 0
theorem lastG.uniq {n : Nat} {P T : Nat → Int} {m m' : Nat} (h : lastG n P T m) (h' : lastG n P T m') : m = m' := by
  unfold lastG at h h'
  split at h
  · rw [if_pos (by assumption)] at h'; exact h.uniq h'
  · rw [if_neg (by assumption)] at h'; omega
def RetLTE (n : Nat) (P T : Nat → Int) (err : Int) (w : World) (e : Ending) (w' : World) : Prop :=
  ∃ a c m, e = .returned (.tuple #[.slice a m c, .int .i64 err]) ∧ m ≤ c ∧ c ≤ maxLen ∧ lastG n P T m ∧ m ≤ 1000 ∧ RdT w' a m (tr nf (layT n P T m)) ∧ Gr w w'

theorem Layers_any (adr : Option Addr) (n c : Nat) (P T : Nat → Int) (w : World) (hn : n ≤ 1000) (hw : WfH n P T) (hr : RdM w adr n P T) (hT : Tab w) :
    Calls Tryd.prog 37 #[.slice adr n c] w (RetLTE n P T (errH n P T) w) := by
  have HW := Lib.hid hw
  have HR := Lib.hid hr
  have TT := Lib.hid hT
  clear hw hr hT
  cases hv : vH n P T with
  | false =>
    have HV := Lib.hid hv
    have LG := Lib.hid (show lastG n P T 0 by unfold lastG; rw [hv]; rfl)
    have e2 : errH n P T = 20 := by unfold errH; rw [hv]; rfl
    rw [e2]
    clear hv e2
    go_enter Tryd.func37, Tryd.ntmps37
    go_wp2_with (first
      | (go_at_call 66; refine (open_bad adr n c P T _ hn HV.out HW.out HR.out).mono ?_; rintro e w1 ⟨rfl, g1⟩)
      | go_in)
    go_ret2
    exact ⟨none, 0, 0, rfl, Nat.le_refl _, by unfold maxLen; omega, LG.out, by omega, .inl rfl, g1⟩
  | true =>
    have HV := Lib.hid (vH_iff.1 hv)
    have LG := Lib.hid (show ∀ m, LastL n P T m → lastG n P T m from fun m h => by unfold lastG; rw [hv]; exact h)
    have hf := HV.out.few
    have e2 : errH n P T = 0 := by unfold errH; rw [hv]; rfl
    rw [e2]
    clear hv e2
    go_enter Tryd.func37, Tryd.ntmps37
    go_wp2_with (first
      | (go_at_call 66; refine (open_any adr n c P T _ HV.out HW.out HR.out).mono ?_; rintro e w1 ⟨p, b1, b2, rfl, O, g1, l1⟩; have O1 := Lib.hid O; clear O)
      | (go_at_call 80; refine (layers_any hf _ (TT.out.gr g1) O1.out).mono ?_; rintro e w2 ⟨a, c, m, rfl, r1, r2, r3, r4, r5, g2⟩)
      | go_in)
    go_ret2
    exact ⟨a, c, m, rfl, r1, r2, LG.out m r3, by omega, r5, g1.trans g2⟩

theorem left_done {n : Nat} {P T : Nat → Int} {k x : Nat} (hx : x < n) : (leftK n P T k x && !(layK1 n P T k).contains x) = leftK n P T (k + 1) x := by
  unfold layK1 firstL
  rw [els_contains hx]; rfl

set_option maxHeartbeats 1000000 in
theorem refLayers_any (adr : Option Addr) (n c : Nat) (P T : Nat → Int) (w : World) (hn : n ≤ 1000) (hr : RdM w adr n P T) :
    Calls Tryd.prog 38 #[.slice adr n c] w (RetLTE n P T (errH n P T) w) := by
  have HR := Lib.hid hr
  clear hr
  cases hv : vH n P T with
  | false =>
    have HV := Lib.hid hv
    have LG := Lib.hid (show lastG n P T 0 by unfold lastG; rw [hv]; rfl)
    have e2 : errH n P T = 20 := by unfold errH; rw [hv]; rfl
    rw [e2]
    clear hv e2
    go_enter Tryd.func38, Tryd.ntmps38
    go_wp2_with (go_at_call 27; refine (refValid_any adr n c P T _ hn HR.out).mono ?_; rintro e w1 h1; obtain ⟨rfl, g1⟩ := h1.gr; clear h1; rw [HV.out])
    go_ret2
    exact ⟨none, 0, 0, rfl, Nat.le_refl _, by unfold maxLen; omega, LG.out, by omega, .inl rfl, g1⟩
  | true =>
    have HV := Lib.hid (vH_iff.1 hv)
    have EV := Lib.hid hv
    have LG := Lib.hid (show ∀ m, LastL n P T m → lastG n P T m from fun m h => by unfold lastG; rw [hv]; exact h)
    have hf := HV.out.few
    have hp := HV.out.pos
    have e2 : errH n P T = 0 := by unfold errH; rw [hv]; rfl
    rw [e2]
    clear hv e2
    have C0 := Lib.hid (show cnt (leftK n P T 0) n = n by
      have : ∀ m, m ≤ n → cnt (leftK n P T 0) m = m := fun m => by
        induction m with
        | zero => intro _; rfl
        | succ m ih =>
          intro hm
          rw [cnt, ih (by omega), if_pos (by show decide (m < n) = true; simp; omega)]
      exact this n (Nat.le_refl _))
    go_enter Tryd.func38, Tryd.ntmps38
    go_wp2_with (first
      | (go_at_call 27; refine (refValid_any adr n c P T _ hn HR.out).mono ?_; rintro e w1 h1; obtain ⟨rfl, g1⟩ := h1.gr; clear h1; rw [EV.out])
      | (go_at_call 77; refine (refall_any adr n c _ hf).mono ?_; rintro e w2 ⟨bk, rfl, ra, g2, b2⟩; have RA := Lib.hid (ra.congr (V' := bV (leftK n P T 0)) fun i hi => by unfold bV; congr 1; show true = decide (i < n); simp [hi]); have G2 := Lib.hid (g1.trans g2); have B2 := Lib.hid (show w.heap.size ≤ bk from Nat.le_trans g1.size b2); have B3 := Lib.hid (show bk < w2.heap.size from World.block_lt_of_cell? w2 _ (ra 0 hp).1); clear ra))
    go_loopw [5, 6] (fun v s wr => ∃ k : Nat, s = .int .i64 ((n - cnt (leftK n P T k) n : Nat) : Int) ∧ OwnT w w2.heap.size nf wr v (layT n P T k) ∧ Hid (RowG wr bk n (bV (leftK n P T k))) ∧ Hid (∀ j, j < k → cnt (leftK n P T j) n ≠ 0)) (fun _ s _ => n - (intOf s).toNat)
    case atStart => exact ⟨0, by rw [C0.out, Nat.sub_self]; rfl, OwnT.nil' G2.out G2.out.size (Nat.le_refl _) nf, RA, fun j hj => by omega⟩
    case round =>
      obtain ⟨k, rfl, hown, hR, hne⟩ := hrel
      have hle := left_le hne.out
      by_cases hz : cnt (leftK n P T k) n = 0
      · have hL : LastL n P T k := ⟨hz, hne.out⟩
        rw [hz]
        clear hz hne
        go_wp2_with fail
        go_ret2
        obtain ⟨a, c, rfl, h1, h2, h3⟩ := hown.rd
        rw [layT_length] at h1 h3 ⊢
        exact ⟨a, c, k, rfl, h1, h2, LG.out k hL, by omega, h3, hown.1.1⟩
      · have LS := Lib.hid (layT_succ n P T k)
        have LD := Lib.hid (fun x (hx : x < n) => left_done (P := P) (T := T) (k := k) hx)
        have K := Lib.hid (show (layT n P T k).length < 1000000 by rw [layT_length]; omega)
        have NE := Lib.hid (show ∀ j, j < k + 1 → cnt (leftK n P T j) n ≠ 0 from fun j hj => by
          by_cases e : j = k
          · subst e; exact hz
          · exact hne.out j (by omega))
        have hpos := lay_pos hz
        have hsum := left_cnt n P T k
        have hcl := cnt_le (leftK n P T k) n
        have LL := Lib.hid (show ∀ j, j < (layK1 n P T k).length → (layK1 n P T k).getD j 0 < n from fun j hj => (els_lt (p := frB n P T (leftK n P T k)) (n := n) hj).1)
        have C1 := Lib.hid (fun w' hh hr => first_f adr n c P T HV.out bk n (leftK n P T k) w' hh hr)
        have FL := Lib.hid (show firstL n P T (leftK n P T k) = layK1 n P T k from rfl)
        rw [FL.out] at C1
        generalize layK1 n P T k = L at LS LD hpos hsum LL C1 FL
        have i1 : ((n - cnt (leftK n P T k) n : Nat) : Int) < (n : Int) := by omega
        have S1 := Lib.hid (show ((n - cnt (leftK n P T k) n : Nat) : Int) + (L.length : Int) = ((n - cnt (leftK n P T (k + 1)) n : Nat) : Int) by omega)
        have S2 := Lib.hid (show n - (n - cnt (leftK n P T (k + 1)) n) < n - (n - cnt (leftK n P T k) n) by omega)
        have HL := Lib.hid (show L.length ≤ 14 by omega)
        have w1' : IntKind.i64.wrap (((n - cnt (leftK n P T k) n : Nat) : Int) + (L.length : Int)) = ((n - cnt (leftK n P T (k + 1)) n : Nat) : Int) := by rw [S1.out]; exact IntWalk.i64_in _ (by omega)
        generalize n - cnt (leftK n P T k) n = q at i1 S1 S2 w1' ⊢
        have QQ := Lib.hid (show n - cnt (leftK n P T (k + 1)) n = n - cnt (leftK n P T (k + 1)) n from rfl)
        generalize hq' : n - cnt (leftK n P T (k + 1)) n = q' at S1 S2 w1'
        have HQ := Lib.hid hq'
        clear hq' QQ
        clear hz hne hsum hcl FL hle
        go_wp2_with (go_at_call 76; refine (C1.out _ (HR.out.gr hown.1.1) hR.out).mono ?_; rintro e w3 ⟨a, cl, rfl, r1, r2, r3, g3, r5⟩)
        obtain ⟨b, o, rfl, q2, q3⟩ := r5.resolve_left (by omega)
        have bb : b ≠ bk := by have h1 := B3.out; have h2 := hown.1.2.2; omega
        go_loopw [8] (fun s wx => ∃ j : Nat, j ≤ L.length ∧ s = .int .i64 j ∧ OwnT w w2.heap.size nf wx u5 (layT n P T k) ∧ Hid (RowG wx bk n (bV fun x => leftK n P T k x && !(L.take j).contains x)) ∧ Hid (RdI wx (some ⟨b, o, none⟩) L.length (nf L)) ∧ Hid (w3.heap.size ≤ wx.heap.size)) (fun s _ => L.length - (intOf s).toNat)
        case atStart => exact ⟨0, Nat.zero_le _, rfl, hown.gr g3, (hR.out.gr g3).congr fun i _ => by unfold bV; simp, r3, Nat.le_refl _⟩
        case round =>
          obtain ⟨j, hj, rfl, ho, hG, hI, hS⟩ := hrel
          by_cases hlt : j < L.length
          · obtain ⟨b', o', e9, hc⟩ := hI.out.at hlt
            simp at e9
            obtain ⟨rfl, rfl⟩ := e9
            have cj := hc j hlt
            have xn := LL.out j hlt
            unfold nf at cj
            have HX := Lib.hid (fun i => take_succ_contains hlt i)
            generalize L.getD j 0 = x at cj xn HX
            obtain ⟨d1, d2⟩ := hG.out x xn
            have j1 : (j : Int) < (L.length : Int) := by omega
            have j2 : (x : Int) < (n : Int) := by omega
            have R2 := Lib.hid ((hG.out.put (j := x) (.bool false)).congr (V' := bV fun i => leftK n P T k i && !(L.take (j + 1)).contains i) fun i _ => by
              show (if i = x then _ else bV _ i) = _
              unfold bV
              by_cases e : i = x
              · subst e
                rw [if_pos rfl]
                show Value.bool false = Value.bool (leftK n P T k i && !(L.take (j + 1)).contains i)
                rw [HX.out]; simp
              · rw [if_neg e]
                show Value.bool (leftK n P T k i && !(L.take j).contains i) = Value.bool (leftK n P T k i && !(L.take (j + 1)).contains i)
                have : (i == x) = false := by simpa using e
                rw [HX.out, this]; simp)
            have I2 := Lib.hid (show RdI (wr.setCell ⟨bk, x, none⟩ (.bool false)) (some ⟨b, o, none⟩) L.length (nf L) from .inr ⟨b, o, rfl, fun i hi => by
              rw [World.cell?_setCell_other _ _ _ _ (fun e => bb (congrArg Addr.block e).symm)]
              exact hc i hi⟩)
            have O2 := Lib.hid (ho.set (b := bk) (j := x) B2.out B3.out (.bool false))
            have S3 := Lib.hid (show w3.heap.size ≤ (wr.setCell ⟨bk, x, none⟩ (.bool false)).heap.size by simpa using hS.out)
            clear hc hI
            have h14 := HL.out
            go_wp2_with fail
            go_roundw
            case rel => exact ⟨j + 1, hlt, by first | rfl | go_num | (congr 1; rw [IntWalk.i64_in _ (by omega)]; omega), O2.out, R2, I2, S3⟩
            case measure => simp [intOf]; first | omega | (rw [show wrap64 ((j : Int) + 1) = (j : Int) + 1 from IntWalk.i64_in _ (by omega)]; omega)
          · obtain rfl : j = L.length := by omega
            have R2 := Lib.hid (hG.out.congr (V' := bV (leftK n P T (k + 1))) fun i hi => by
              unfold bV
              show Value.bool (leftK n P T k i && !(L.take L.length).contains i) = Value.bool (leftK n P T (k + 1) i)
              rw [List.take_length, LD.out i hi])
            have hy := Lib.hid (show Holds w2.heap.size wr u5 nf (.slice (some ⟨b, o, none⟩) L.length cl) L from ⟨_, cl, rfl, r1, r2, hI.out, .inr ⟨b, o, rfl, Nat.lt_of_lt_of_le q2 hS.out, fun q => by have := hown.lt q.symm; omega, Nat.le_trans hown.1.2.2 q3⟩⟩)
            have K' := K.out
            go_wp2_with (at_builtin; go_must (refine wpList_app_list rfl _ _ 43 rfl Tryd.underlying43 Tryd.info23 nf _ _ rfl (ho.gr ((Gr.refl _).alloc _)) _ _ L rfl (cell_new1 _ _ _) (hy.out.gr ((Gr.refl _).alloc _)) K.out ?_); intro v1 w4 ow4 g4)
            have R4 := Lib.hid (((R2.out.gr ((Gr.refl _).alloc (.cells #[.slice (some ⟨b, o, none⟩) L.length cl] 23)))).grown g4 (ho.ne B3.out))
            go_roundw
            case rel => exact ⟨k + 1, by rw [HQ.out], by rw [LS.out]; exact ow4, R4.out, NE.out⟩
            case measure => have := S2.out; simp [intOf]; omega

end Go.Proofs.YtjokheeegcilhaaDoor
