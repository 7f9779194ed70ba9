/- The library's sort at bytes: pdqsort, slices.Sort. -/
import Derived.Test.YtehdemcfeoiecaaDoorS5
import Derived.Test.YtehdemcfeoiecaaDoorS7
import Derived.Test.YtehdemcfeoiecaaDoorS8
import Derived.Test.YtehdemcfeoiecaaDoorS9
import Derived.Sort.LotD4
namespace Go.Proofs.YtehdemcfeoiecaaDoor
open Go.RowKit Go.Firn Go.Sort

theorem st_part : partition_stmt ltInt := partition_holds (lt := ltInt)
/-- The row that is left to be put in order. -/
def St (a0 b0 n : Nat) (d : Array Int) (a b1 : Nat) (d1 : Array Int) : Prop := d1.size = n ∧ Go.Sort.Below ltInt a b1 d1 ∧ ∀ R, PermIn a b1 d1 R → SortedIn ltInt a b1 R → PermIn a0 b0 d R ∧ SortedIn ltInt a0 b0 R
theorem St.perm {a0 b0 n a b1 : Nat} {d d1 d2 : Array Int} (h : St a0 b0 n d a b1 d1) (hb : b1 ≤ n) (hp : PermIn a b1 d1 d2) : St a0 b0 n d a b1 d2 :=
  ⟨hp.1.trans h.1, Below.perm h.2.1 (by rw [h.1]; exact hb) hp, fun R h1 h2 => h.2.2 R (permIn_trans _ _ _ _ _ hp h1) h2⟩
theorem St.equal {a0 b0 n a b1 p : Nat} {d d1 : Array Int} (h : St a0 b0 n d a b1 d1) (hb : b1 ≤ n) (ha : 0 < a) (h1 : a ≤ p) (h2 : p < b1) (hl : ¬ d1[a - 1]! < d1[p]!) :
    a < (partitionEqual ltInt d1 a b1 p).1 ∧ (partitionEqual ltInt d1 a b1 p).1 ≤ b1 ∧ St a0 b0 n d (partitionEqual ltInt d1 a b1 p).1 b1 (partitionEqual ltInt d1 a b1 p).2 := by
  obtain ⟨x1, x2, x3, x4, x5⟩ := round_eq swo_ltInt (partitionEqual_holds (lt := ltInt)) (d3 := d1) (d4 := (partitionEqual ltInt d1 a b1 p).2) (mid := (partitionEqual ltInt d1 a b1 p).1) ha h1 h2 (by rw [h.1]; exact hb) h.2.1 (by unfold ltInt; exact decide_eq_false hl) rfl
  exact ⟨x1, x2, x3.trans h.1, x4, fun R r1 r2 => h.2.2 R (x5 R r1 r2).1 (x5 R r1 r2).2⟩
theorem St.part {a0 b0 n a b1 p : Nat} {d d1 : Array Int} (h : St a0 b0 n d a b1 d1) (hb : b1 ≤ n) (h1 : a ≤ p) (h2 : p < b1) :
    (a ≤ (partition ltInt d1 a b1 p).1 ∧ (partition ltInt d1 a b1 p).1 < b1) ∧ (partition ltInt d1 a b1 p).2.2.size = n ∧ Go.Sort.Below ltInt a (partition ltInt d1 a b1 p).1 (partition ltInt d1 a b1 p).2.2 ∧ Go.Sort.Below ltInt ((partition ltInt d1 a b1 p).1 + 1) b1 (partition ltInt d1 a b1 p).2.2 ∧
    (∀ L, PermIn a (partition ltInt d1 a b1 p).1 (partition ltInt d1 a b1 p).2.2 L → SortedIn ltInt a (partition ltInt d1 a b1 p).1 L → St a0 b0 n d ((partition ltInt d1 a b1 p).1 + 1) b1 L) ∧
    (∀ L, PermIn ((partition ltInt d1 a b1 p).1 + 1) b1 (partition ltInt d1 a b1 p).2.2 L → SortedIn ltInt ((partition ltInt d1 a b1 p).1 + 1) b1 L → St a0 b0 n d a (partition ltInt d1 a b1 p).1 L) := by
  obtain ⟨x1, x2, x3, x4, x5, x6, x7⟩ := round_part swo_ltInt st_part (d3 := d1) (d4 := (partition ltInt d1 a b1 p).2.2) (mid := (partition ltInt d1 a b1 p).1) (ap := (partition ltInt d1 a b1 p).2.1) h1 h2 (by rw [h.1]; exact hb) h.2.1 rfl
  refine ⟨⟨x1, x2⟩, x3.trans h.1, x4, x5, fun L l1 l2 => ?_, fun L l1 l2 => ?_⟩
  · exact ⟨l1.1.trans (x3.trans h.1), (x6 L l1 l2).1, fun R r1 r2 => h.2.2 R ((x6 L l1 l2).2 R r1 r2).1 ((x6 L l1 l2).2 R r1 r2).2⟩
  · exact ⟨l1.1.trans (x3.trans h.1), (x7 L l1 l2).1, fun R r1 r2 => h.2.2 R ((x7 L l1 l2).2 R r1 r2).1 ((x7 L l1 l2).2 R r1 r2).2⟩

/-- The row is put in order. -/
def RetPdq (b a0 b0 : Nat) (d : Array Int) (w : World) (e : Ending) (w' : World) : Prop := e = .returned (.tuple #[]) ∧ Wr b w w' ∧ ∃ d', RowB w' b d' ∧ PermIn a0 b0 d d' ∧ SortedIn ltInt a0 b0 d'

set_option maxRecDepth 100000 in
set_option maxHeartbeats 40000000 in
theorem pdq_any (b cap n : Nat) (hn : n ≤ 1000000) : ∀ (m a0 b0 limit : Nat) (d : Array Int) (w : World), b0 - a0 = m → d.size = n → a0 ≤ b0 → b0 ≤ n → limit ≤ 64 → Go.Sort.Below ltInt a0 b0 d → RowB w b d → b < w.heap.size →
    Calls Tryd.prog 73 #[.slice (some ⟨b, 0, none⟩) n cap, .int .i64 a0, .int .i64 b0, .int .i64 limit] w (RetPdq b a0 b0 d w) := by
  intro m
  induction m using Nat.strongRecOn with
  | _ m ih =>
  intro a0 b0 limit d w hm hd hab hb hlim hB hw hbw
  have HI := Lib.hid (fun (a b1 lim : Nat) (d1 : Array Int) (w1 : World) (h : b1 - a < m) h1 h2 h3 h4 h5 h6 h7 => ih (b1 - a) h a b1 lim d1 w1 rfl h1 h2 h3 h4 h5 h6 h7)
  have HS := Lib.hid (show St a0 b0 n d a0 b0 d from ⟨hd, hB, fun R h1 h2 => ⟨h1, h2⟩⟩)
  have HR := Lib.hid hw
  have HF := Lib.hid (show a0 ≤ b0 ∧ b0 ≤ n ∧ b0 - a0 = m ∧ n ≤ 1000000 ∧ limit ≤ 64 from ⟨hab, hb, hm, hn, hlim⟩)
  have HG := Lib.hid (fun w1 (g : Wr b w w1) => show b < w1.heap.size from Nat.lt_of_lt_of_le hbw g.size)
  clear ih hm hd hab hb hlim hB hw hbw
  go_enter Tryd.func73, Tryd.ntmps73
  go_wp2_with fail
  go_loopw [1, 2, 3, 8, 9] (fun va vb vl v8 v9 wr => ∃ (a b1 lim : Nat) (wb wp : Bool) (d1 : Array Int), va = .int .i64 a ∧ vb = .int .i64 b1 ∧ vl = .int .i64 lim ∧ v8 = .bool wb ∧ v9 = .bool wp ∧ Hid (a0 ≤ a ∧ a ≤ b1 ∧ b1 ≤ b0 ∧ lim ≤ 64) ∧ Hid (Wr b w wr) ∧ Hid (RowB wr b d1) ∧ Hid (St a0 b0 n d a b1 d1)) (fun va vb _ _ _ _ => (intOf vb - intOf va).toNat)
  case atStart => exact ⟨a0, b0, limit, true, true, d, rfl, rfl, rfl, rfl, rfl, Lib.hid (by have := HF.out; omega), Lib.hid (Wr.refl _ _), HR, HS⟩
  case round =>
    clear HS HR
    obtain ⟨a, b1, lim, wb, wp, d1, rfl, rfl, rfl, rfl, rfl, HA, HW1, HR1, HS1⟩ := hrel
    have ha := HA.out
    have hf := HF.out
    obtain ⟨L, hL⟩ : ∃ L, L + a = b1 := ⟨b1 - a, by omega⟩
    have HL := Lib.hid hL
    by_cases h12 : L ≤ 12
    · have g1 : (L : Int) ≤ 12 := by omega
      have CI := Lib.hid (insSort_any b cap n a b1 d1 wr HS1.out.1 hn (by omega) (by omega) HR1.out)
      have HO := Lib.hid (show PermIn a0 b0 d (insertionSort ltInt d1 a b1) ∧ SortedIn ltInt a0 b0 (insertionSort ltInt d1 a b1) by
        have := insertionSort_holds (lt := ltInt) swo_ltInt d1 a b1 (by omega) (by rw [HS1.out.1]; omega)
        exact HS1.out.2.2 _ this.1 this.2)
      have e1 : IntKind.i64.wrap ((b1 : Int) - (a : Int)) = (L : Int) := wsub hL (by omega)
      generalize insertionSort ltInt d1 a b1 = d2 at *
      clear hL ha hf
      go_wp2_with (go_at_call 96; (with_reducible refine CI.out.mono ?_); rintro e w1 ⟨rfl, g, r⟩; have GW := Lib.hid g; have GR := Lib.hid r; clear g r)
      go_end0
      exact ⟨rfl, HW1.out.trans GW.out, d2, GR.out, HO.out.1, HO.out.2⟩
    by_cases hl0 : lim = 0
    · have g1 : ¬ (L : Int) ≤ 12 := by omega
      have CI := Lib.hid (heap_any b cap n a b1 d1 wr HS1.out.1 hn (by omega) (by omega) HR1.out)
      have HO := Lib.hid (show PermIn a0 b0 d (heapSort ltInt d1 a b1) ∧ SortedIn ltInt a0 b0 (heapSort ltInt d1 a b1) by
        have := heapSort_holds (lt := ltInt) swo_ltInt d1 a b1 (by omega) (by rw [HS1.out.1]; omega)
        exact HS1.out.2.2 _ this.1 this.2)
      have e1 : IntKind.i64.wrap ((b1 : Int) - (a : Int)) = (L : Int) := wsub hL (by omega)
      subst hl0
      generalize heapSort ltInt d1 a b1 = d2 at *
      clear hL ha hf h12
      go_wp2_with (go_at_call 97; (with_reducible refine CI.out.mono ?_); rintro e w1 ⟨rfl, g, r⟩; have GW := Lib.hid g; have GR := Lib.hid r; clear g r)
      go_end0
      exact ⟨rfl, HW1.out.trans GW.out, d2, GR.out, HO.out.1, HO.out.2⟩
    have g1 : ¬ (L : Int) ≤ 12 := by omega
    have g2 : ((lim : Int) == 0) = false := by simpa using hl0
    obtain ⟨l1, hl1⟩ : ∃ l1, l1 + 1 = lim := ⟨lim - 1, by omega⟩
    obtain ⟨q8, hq8⟩ : ∃ q8, L / 8 = q8 := ⟨_, rfl⟩
    have HZ := Lib.hid (show a0 ≤ a ∧ a + 12 < b1 ∧ b1 ≤ b0 ∧ b0 ≤ n ∧ lim ≤ 64 ∧ n ≤ 1000000 ∧ l1 + 1 = lim ∧ b0 - a0 = m ∧ L + a = b1 by omega)
    obtain ⟨e1, e2, e8⟩ : IntKind.i64.wrap ((b1 : Int) - (a : Int)) = (L : Int) ∧ IntKind.i64.wrap ((lim : Int) - 1) = (l1 : Int) ∧ wrap64 ((L : Int) / 8) = (q8 : Int) := by
      refine ⟨wsub hL (by omega), wsub1 hl1 (by omega), ?_⟩
      rw [IntWalk.wrap64_in _ (by omega)]; omega
    clear h12 hl0 hl1 hq8 hL ha hf HA
    cases wb with
    | true =>
      have CC := Lib.hid (choose_any b cap n a b1 d1 wr HS1.out.1 hn (by clear e1 e2 e8; have := HZ.out; omega) (by clear e1 e2 e8; have := HZ.out; omega) HR1.out (HG.out _ HW1.out))
      have HP := Lib.hid (choosePivot_holds ltInt d1 a b1 (by clear e1 e2 e8; have := HZ.out; omega))
      obtain ⟨cc, hcc⟩ : ∃ cc, choosePivot ltInt d1 a b1 = cc := ⟨_, rfl⟩
      rw [hcc] at CC HP
      clear hcc
      obtain ⟨p, h⟩ := cc
      simp only [] at CC HP
      cases h with
      | increasing =>
        cases wp with
        | true =>
          as_aux_lemma =>
          go_wp2_with (go_at_call 99; (with_reducible refine CC.out.mono ?_); rintro e w1 ⟨rfl, g⟩; have GW := Lib.hid (HW1.out.trans (Wr.of_gr g)); have GR := Lib.hid (HR1.out.gr g); clear g)
          have HR1' := GR
          have HW1' := GW
          clear HR1 HW1 CC GW GR
          have HR1 := HR1'
          have HW1 := HW1'
          clear HR1' HW1'
          generalize hw12 : w1 = wr at *
          clear hw12
          have CS := Lib.hid (pins_any b cap n a b1 d1 wr HS1.out.1 hn (by clear e1 e2 e8; have := HZ.out; omega) (by clear e1 e2 e8; have := HZ.out; omega) HR1.out)
          have hpi := partialInsertionSort_holds (lt := ltInt) swo_ltInt d1 a b1 (by clear e1 e2 e8; have := HZ.out; omega) (by rw [HS1.out.1]; clear e1 e2 e8; have := HZ.out; omega) HS1.out.2.1
          obtain ⟨pp, hpp⟩ : ∃ pp, partialInsertionSort ltInt d1 a b1 = pp := ⟨_, rfl⟩
          rw [hpp] at CS hpi
          clear hpp
          obtain ⟨d2, tt⟩ := pp
          simp only [] at CS hpi
          cases tt with
          | true =>
            have HO := Lib.hid (HS1.out.2.2 d2 hpi.1 (hpi.2 rfl))
            clear hpi HS1
            go_wp2_with (go_at_call 101; (with_reducible refine CS.out.mono ?_); rintro e w3 ⟨rfl, g, r⟩; have GW := Lib.hid (HW1.out.trans g); have GR := Lib.hid r; clear g r)
            go_end0
            exact ⟨rfl, GW.out, d2, GR.out, HO.out.1, HO.out.2⟩
          | false =>
            have HS2 := Lib.hid (HS1.out.perm (by clear e1 e2 e8; have := HZ.out; omega) hpi.1)
            clear hpi HS1
            go_wp2_with (go_at_call 101; (with_reducible refine CS.out.mono ?_); rintro e w3 ⟨rfl, g, r⟩; have GW := Lib.hid (HW1.out.trans g); have GR := Lib.hid r; clear g r)
            have HR1' := GR
            have HW1' := GW
            clear HR1 HW1 CS GW GR
            have HR1 := HR1'
            have HW1 := HW1'
            have HS1 := HS2
            clear HR1' HW1' HS2
            generalize hw12 : w3 = wr at *
            clear hw12
            generalize hd12 : d2 = d1 at *
            clear hd12
            by_cases haz : a = 0
            · have z0 : ¬ 0 < a := by clear e1 e2 e8; omega
              have z0' : ¬ (0 : Int) < (a : Int) := by clear e1 e2 e8; omega
              clear haz
              go_wp2_with fail
              go_quiet (fail)
              clear z0 z0'
              replace HW1 := Lib.hid (HW1.out.drewN nq)
              replace HR1 := Lib.hid (show RowB (wr.drewN nq) b d1 from HR1.out)
              generalize wr.drewN nq = wr at *
              have CP := Lib.hid (part_any b cap n a b1 p d1 wr HS1.out.1 hn (by clear e1 e2 e8; have := HZ.out; omega) (by clear e1 e2 e8; have := HZ.out; omega) (by clear e1 e2 e8; have := HZ.out; have := HP.out; omega) HR1.out)
              obtain ⟨hr1, hr2, hr3, hr4, hr5, hr6⟩ := HS1.out.part (p := p) (by clear e1 e2 e8; have := HZ.out; omega) HP.out.1 HP.out.2
              obtain ⟨rr, hrr⟩ : ∃ rr, partition ltInt d1 a b1 p = rr := ⟨_, rfl⟩
              rw [hrr] at CP hr1 hr2 hr3 hr4 hr5 hr6
              clear hrr
              obtain ⟨mid, ap, d4⟩ := rr
              simp only [] at CP hr1 hr2 hr3 hr4 hr5 hr6
              have H1 := Lib.hid hr1
              have H2 := Lib.hid hr2
              have H3 := Lib.hid hr3
              have H4 := Lib.hid hr4
              have H5 := Lib.hid hr5
              have H6 := Lib.hid hr6
              clear hr1 hr2 hr3 hr4 hr5 hr6
              obtain ⟨ll, hll⟩ : ∃ ll, ll + a = mid := ⟨mid - a, by clear e1 e2 e8; have := H1.out; omega⟩
              obtain ⟨rl, hrl⟩ : ∃ rl, rl + mid = b1 := ⟨b1 - mid, by clear e1 e2 e8; have := H1.out; omega⟩
              obtain ⟨m1, hm1⟩ : ∃ m1, mid + 1 = m1 := ⟨_, rfl⟩
              have HV := Lib.hid (show ll + a = mid ∧ rl + mid = b1 ∧ mid + 1 = m1 ∧ a ≤ mid ∧ mid < b1 from ⟨hll, hrl, hm1, H1.out.1, H1.out.2⟩)
              have k1 : IntKind.i64.wrap ((mid : Int) - (a : Int)) = (ll : Int) := wsub hll (by clear e1 e2 e8; have := HZ.out; have := HV.out; omega)
              have k2 : IntKind.i64.wrap ((b1 : Int) - (mid : Int)) = (rl : Int) := wsub hrl (by clear e1 e2 e8; clear k1; have := HZ.out; have := HV.out; omega)
              have k3 : IntKind.i64.wrap ((mid : Int) + 1) = (m1 : Int) := wadd1 hm1 (by clear e1 e2 e8; clear k1 k2; have := HZ.out; have := HV.out; omega)
              rw [hm1] at H4 H5 H6
              clear hll hrl hm1
              by_cases hlr : ll < rl
              · as_aux_lemma =>
                  have k0 : (ll : Int) < (rl : Int) := by clear e1 e2 e8; clear k1 k2 k3; omega
                  have CR := Lib.hid (fun w1 (g : Wr b w w1) (h : RowB w1 b d4) => HI.out a mid lim d4 w1 (by clear e1 e2 e8; clear k1 k2 k3; have := HZ.out; have := HV.out; omega) H2.out (by clear e1 e2 e8; clear k1 k2 k3; have := HZ.out; have := HV.out; omega) (by clear e1 e2 e8; clear k1 k2 k3; have := HZ.out; have := HV.out; omega) (by clear e1 e2 e8; clear k1 k2 k3; have := HZ.out; omega) H3.out h (HG.out w1 g))
                  clear hlr HS1 H1 H2 H3 H4 HP
                  go_wp2_with (first
                    | (go_at_call 103; (with_reducible refine CP.out.mono ?_); rintro e w1 ⟨rfl, g, r⟩; have GW := Lib.hid (HW1.out.trans g); have GR := Lib.hid r; clear g r)
                    | (go_at_call 73; (with_reducible refine (CR.out _ GW.out GR.out).mono ?_); rintro e w2 ⟨rfl, g, d5, r, r1, r2⟩; have GW2 := Lib.hid (GW.out.trans g); have GR2 := Lib.hid r; have GS2 := Lib.hid (H5.out d5 r1 r2); clear g r r1 r2))
                  go_roundw
                  case rel => exact ⟨m1, b1, lim, _, ap, d5, rfl, rfl, rfl, rfl, rfl, Lib.hid (by clear e1 e2 e8; clear k1 k2 k3 k0; have := HZ.out; have := HV.out; omega), GW2, GR2, GS2⟩
                  case measure => clear e1 e2 e8; clear k1 k2 k3 k0; have := HZ.out; have := HV.out; simp [intOf]; omega
              · as_aux_lemma =>
                  have k0 : ¬ (ll : Int) < (rl : Int) := by clear e1 e2 e8; clear k1 k2 k3; omega
                  have CR := Lib.hid (fun w1 (g : Wr b w w1) (h : RowB w1 b d4) => HI.out m1 b1 lim d4 w1 (by clear e1 e2 e8; clear k1 k2 k3; have := HZ.out; have := HV.out; omega) H2.out (by clear e1 e2 e8; clear k1 k2 k3; have := HZ.out; have := HV.out; omega) (by clear e1 e2 e8; clear k1 k2 k3; have := HZ.out; have := HV.out; omega) (by clear e1 e2 e8; clear k1 k2 k3; have := HZ.out; omega) H4.out h (HG.out w1 g))
                  clear hlr HS1 H1 H2 H3 H4 HP
                  go_wp2_with (first
                    | (go_at_call 103; (with_reducible refine CP.out.mono ?_); rintro e w1 ⟨rfl, g, r⟩; have GW := Lib.hid (HW1.out.trans g); have GR := Lib.hid r; clear g r)
                    | (go_at_call 73; (with_reducible refine (CR.out _ GW.out GR.out).mono ?_); rintro e w2 ⟨rfl, g, d5, r, r1, r2⟩; have GW2 := Lib.hid (GW.out.trans g); have GR2 := Lib.hid r; have GS2 := Lib.hid (H6.out d5 r1 r2); clear g r r1 r2))
                  go_roundw
                  case rel => exact ⟨a, mid, lim, _, ap, d5, rfl, rfl, rfl, rfl, rfl, Lib.hid (by clear e1 e2 e8; clear k1 k2 k3 k0; have := HZ.out; have := HV.out; omega), GW2, GR2, GS2⟩
                  case measure => clear e1 e2 e8; clear k1 k2 k3 k0; have := HZ.out; have := HV.out; simp [intOf]; omega
            · obtain ⟨ap1, hap⟩ : ∃ ap1, ap1 + 1 = a := ⟨a - 1, by clear e1 e2 e8; omega⟩
              have z0 : 0 < a := by clear e1 e2 e8; omega
              have z1 : (ap1 : Int) < (n : Int) := by clear e1 e2 e8; have := HZ.out; omega
              have z2 : (p : Int) < (n : Int) := by clear e1 e2 e8; have := HZ.out; have := HP.out; omega
              have z3 : IntKind.i64.wrap ((a : Int) - 1) = (ap1 : Int) := wsub1 hap (by clear e1 e2 e8; have := HZ.out; omega)
              have HPA := Lib.hid (show a - 1 = ap1 by clear e1 e2 e8; clear z3; omega)
              obtain ⟨ca, -⟩ := HR1.out ap1 (by rw [HS1.out.1]; clear e1 e2 e8; clear z3; have := HZ.out; omega)
              obtain ⟨cp, -⟩ := HR1.out p (by rw [HS1.out.1]; clear e1 e2 e8; clear z3; have := HZ.out; have := HP.out; omega)
              by_cases hl : d1[ap1]! < d1[p]!
              · have C := Lib.hid (fun w1 => show Calls Tryd.prog 93 #[.int .u8 d1[ap1]!, .int .u8 d1[p]!] w1 fun e w' => e = .returned (.bool true) ∧ w' = w1 by have := Less8_any d1[ap1]! d1[p]! w1; rwa [decide_eq_true hl] at this)
                generalize d1[ap1]! = x at C ca cp
                generalize d1[p]! = y at C ca cp
                clear hl hap haz
                go_wp2_with fail
                go_quiet ((go_at_call 93; with_reducible exact Calls.quiet_of_same (C.out _)))
                clear C ca cp z0 z1 z2 z3
                replace HW1 := Lib.hid (HW1.out.drewN nq)
                replace HR1 := Lib.hid (show RowB (wr.drewN nq) b d1 from HR1.out)
                generalize wr.drewN nq = wr at *
                have CP := Lib.hid (part_any b cap n a b1 p d1 wr HS1.out.1 hn (by clear e1 e2 e8; have := HZ.out; omega) (by clear e1 e2 e8; have := HZ.out; omega) (by clear e1 e2 e8; have := HZ.out; have := HP.out; omega) HR1.out)
                obtain ⟨hr1, hr2, hr3, hr4, hr5, hr6⟩ := HS1.out.part (p := p) (by clear e1 e2 e8; have := HZ.out; omega) HP.out.1 HP.out.2
                obtain ⟨rr, hrr⟩ : ∃ rr, partition ltInt d1 a b1 p = rr := ⟨_, rfl⟩
                rw [hrr] at CP hr1 hr2 hr3 hr4 hr5 hr6
                clear hrr
                obtain ⟨mid, ap, d4⟩ := rr
                simp only [] at CP hr1 hr2 hr3 hr4 hr5 hr6
                have H1 := Lib.hid hr1
                have H2 := Lib.hid hr2
                have H3 := Lib.hid hr3
                have H4 := Lib.hid hr4
                have H5 := Lib.hid hr5
                have H6 := Lib.hid hr6
                clear hr1 hr2 hr3 hr4 hr5 hr6
                obtain ⟨ll, hll⟩ : ∃ ll, ll + a = mid := ⟨mid - a, by clear e1 e2 e8; have := H1.out; omega⟩
                obtain ⟨rl, hrl⟩ : ∃ rl, rl + mid = b1 := ⟨b1 - mid, by clear e1 e2 e8; have := H1.out; omega⟩
                obtain ⟨m1, hm1⟩ : ∃ m1, mid + 1 = m1 := ⟨_, rfl⟩
                have HV := Lib.hid (show ll + a = mid ∧ rl + mid = b1 ∧ mid + 1 = m1 ∧ a ≤ mid ∧ mid < b1 from ⟨hll, hrl, hm1, H1.out.1, H1.out.2⟩)
                have k1 : IntKind.i64.wrap ((mid : Int) - (a : Int)) = (ll : Int) := wsub hll (by clear e1 e2 e8; have := HZ.out; have := HV.out; omega)
                have k2 : IntKind.i64.wrap ((b1 : Int) - (mid : Int)) = (rl : Int) := wsub hrl (by clear e1 e2 e8; clear k1; have := HZ.out; have := HV.out; omega)
                have k3 : IntKind.i64.wrap ((mid : Int) + 1) = (m1 : Int) := wadd1 hm1 (by clear e1 e2 e8; clear k1 k2; have := HZ.out; have := HV.out; omega)
                rw [hm1] at H4 H5 H6
                clear hll hrl hm1
                by_cases hlr : ll < rl
                · as_aux_lemma =>
                    have k0 : (ll : Int) < (rl : Int) := by clear e1 e2 e8; clear k1 k2 k3; omega
                    have CR := Lib.hid (fun w1 (g : Wr b w w1) (h : RowB w1 b d4) => HI.out a mid lim d4 w1 (by clear e1 e2 e8; clear k1 k2 k3; have := HZ.out; have := HV.out; omega) H2.out (by clear e1 e2 e8; clear k1 k2 k3; have := HZ.out; have := HV.out; omega) (by clear e1 e2 e8; clear k1 k2 k3; have := HZ.out; have := HV.out; omega) (by clear e1 e2 e8; clear k1 k2 k3; have := HZ.out; omega) H3.out h (HG.out w1 g))
                    clear hlr HS1 H1 H2 H3 H4 HP
                    go_wp2_with (first
                      | (go_at_call 103; (with_reducible refine CP.out.mono ?_); rintro e w1 ⟨rfl, g, r⟩; have GW := Lib.hid (HW1.out.trans g); have GR := Lib.hid r; clear g r)
                      | (go_at_call 73; (with_reducible refine (CR.out _ GW.out GR.out).mono ?_); rintro e w2 ⟨rfl, g, d5, r, r1, r2⟩; have GW2 := Lib.hid (GW.out.trans g); have GR2 := Lib.hid r; have GS2 := Lib.hid (H5.out d5 r1 r2); clear g r r1 r2))
                    go_roundw
                    case rel => exact ⟨m1, b1, lim, _, ap, d5, rfl, rfl, rfl, rfl, rfl, Lib.hid (by clear e1 e2 e8; clear k1 k2 k3 k0; have := HZ.out; have := HV.out; omega), GW2, GR2, GS2⟩
                    case measure => clear e1 e2 e8; clear k1 k2 k3 k0; have := HZ.out; have := HV.out; simp [intOf]; omega
                · as_aux_lemma =>
                    have k0 : ¬ (ll : Int) < (rl : Int) := by clear e1 e2 e8; clear k1 k2 k3; omega
                    have CR := Lib.hid (fun w1 (g : Wr b w w1) (h : RowB w1 b d4) => HI.out m1 b1 lim d4 w1 (by clear e1 e2 e8; clear k1 k2 k3; have := HZ.out; have := HV.out; omega) H2.out (by clear e1 e2 e8; clear k1 k2 k3; have := HZ.out; have := HV.out; omega) (by clear e1 e2 e8; clear k1 k2 k3; have := HZ.out; have := HV.out; omega) (by clear e1 e2 e8; clear k1 k2 k3; have := HZ.out; omega) H4.out h (HG.out w1 g))
                    clear hlr HS1 H1 H2 H3 H4 HP
                    go_wp2_with (first
                      | (go_at_call 103; (with_reducible refine CP.out.mono ?_); rintro e w1 ⟨rfl, g, r⟩; have GW := Lib.hid (HW1.out.trans g); have GR := Lib.hid r; clear g r)
                      | (go_at_call 73; (with_reducible refine (CR.out _ GW.out GR.out).mono ?_); rintro e w2 ⟨rfl, g, d5, r, r1, r2⟩; have GW2 := Lib.hid (GW.out.trans g); have GR2 := Lib.hid r; have GS2 := Lib.hid (H6.out d5 r1 r2); clear g r r1 r2))
                    go_roundw
                    case rel => exact ⟨a, mid, lim, _, ap, d5, rfl, rfl, rfl, rfl, rfl, Lib.hid (by clear e1 e2 e8; clear k1 k2 k3 k0; have := HZ.out; have := HV.out; omega), GW2, GR2, GS2⟩
                    case measure => clear e1 e2 e8; clear k1 k2 k3 k0; have := HZ.out; have := HV.out; simp [intOf]; omega
              · have C := Lib.hid (fun w1 => show Calls Tryd.prog 93 #[.int .u8 d1[ap1]!, .int .u8 d1[p]!] w1 fun e w' => e = .returned (.bool false) ∧ w' = w1 by have := Less8_any d1[ap1]! d1[p]! w1; rwa [decide_eq_false hl] at this)
                obtain ⟨hr1, hr2, hr3⟩ := HS1.out.equal (p := p) (by clear e1 e2 e8; clear z3; have := HZ.out; omega) z0 HP.out.1 HP.out.2 (by rw [HPA.out]; exact hl)
                generalize d1[ap1]! = x at C ca cp
                generalize d1[p]! = y at C ca cp
                clear hl hap haz
                go_wp2_with fail
                go_quiet ((go_at_call 93; with_reducible exact Calls.quiet_of_same (C.out _)))
                clear C ca cp z0 z1 z2 z3
                replace HW1 := Lib.hid (HW1.out.drewN nq)
                replace HR1 := Lib.hid (show RowB (wr.drewN nq) b d1 from HR1.out)
                generalize wr.drewN nq = wr at *
                have CP := Lib.hid (peq_any b cap n a b1 p d1 wr HS1.out.1 hn (by clear e1 e2 e8; have := HZ.out; omega) (by clear e1 e2 e8; have := HZ.out; omega) (by clear e1 e2 e8; have := HZ.out; have := HP.out; omega) HR1.out)
                obtain ⟨rr, hrr⟩ : ∃ rr, partitionEqual ltInt d1 a b1 p = rr := ⟨_, rfl⟩
                rw [hrr] at CP hr1 hr2 hr3
                clear hrr
                obtain ⟨mid, d4⟩ := rr
                simp only [] at CP hr1 hr2 hr3
                have HV := Lib.hid (show a < mid ∧ mid ≤ b1 from ⟨hr1, hr2⟩)
                have GS2 := Lib.hid hr3
                clear hr1 hr2 hr3 HS1 HP
                go_wp2_with (go_at_call 102; (with_reducible refine CP.out.mono ?_); rintro e w1 ⟨rfl, g, r⟩; have GW := Lib.hid (HW1.out.trans g); have GR := Lib.hid r; clear g r)
                go_roundw
                case rel => exact ⟨mid, b1, lim, _, _, d4, rfl, rfl, rfl, rfl, rfl, Lib.hid (by clear e1 e2 e8; have := HZ.out; have := HV.out; omega), GW, GR, GS2⟩
                case measure => clear e1 e2 e8; have := HZ.out; have := HV.out; simp [intOf]; omega
        | false =>
          as_aux_lemma =>
          go_wp2_with (go_at_call 99; (with_reducible refine CC.out.mono ?_); rintro e w1 ⟨rfl, g⟩; have GW := Lib.hid (HW1.out.trans (Wr.of_gr g)); have GR := Lib.hid (HR1.out.gr g); clear g)
          have HR1' := GR
          have HW1' := GW
          clear HR1 HW1 CC GW GR
          have HR1 := HR1'
          have HW1 := HW1'
          clear HR1' HW1'
          generalize hw12 : w1 = wr at *
          clear hw12
          by_cases haz : a = 0
          · have z0 : ¬ 0 < a := by clear e1 e2 e8; omega
            have z0' : ¬ (0 : Int) < (a : Int) := by clear e1 e2 e8; omega
            clear haz
            go_wp2_with fail
            go_quiet (fail)
            clear z0 z0'
            replace HW1 := Lib.hid (HW1.out.drewN nq)
            replace HR1 := Lib.hid (show RowB (wr.drewN nq) b d1 from HR1.out)
            generalize wr.drewN nq = wr at *
            have CP := Lib.hid (part_any b cap n a b1 p d1 wr HS1.out.1 hn (by clear e1 e2 e8; have := HZ.out; omega) (by clear e1 e2 e8; have := HZ.out; omega) (by clear e1 e2 e8; have := HZ.out; have := HP.out; omega) HR1.out)
            obtain ⟨hr1, hr2, hr3, hr4, hr5, hr6⟩ := HS1.out.part (p := p) (by clear e1 e2 e8; have := HZ.out; omega) HP.out.1 HP.out.2
            obtain ⟨rr, hrr⟩ : ∃ rr, partition ltInt d1 a b1 p = rr := ⟨_, rfl⟩
            rw [hrr] at CP hr1 hr2 hr3 hr4 hr5 hr6
            clear hrr
            obtain ⟨mid, ap, d4⟩ := rr
            simp only [] at CP hr1 hr2 hr3 hr4 hr5 hr6
            have H1 := Lib.hid hr1
            have H2 := Lib.hid hr2
            have H3 := Lib.hid hr3
            have H4 := Lib.hid hr4
            have H5 := Lib.hid hr5
            have H6 := Lib.hid hr6
            clear hr1 hr2 hr3 hr4 hr5 hr6
            obtain ⟨ll, hll⟩ : ∃ ll, ll + a = mid := ⟨mid - a, by clear e1 e2 e8; have := H1.out; omega⟩
            obtain ⟨rl, hrl⟩ : ∃ rl, rl + mid = b1 := ⟨b1 - mid, by clear e1 e2 e8; have := H1.out; omega⟩
            obtain ⟨m1, hm1⟩ : ∃ m1, mid + 1 = m1 := ⟨_, rfl⟩
            have HV := Lib.hid (show ll + a = mid ∧ rl + mid = b1 ∧ mid + 1 = m1 ∧ a ≤ mid ∧ mid < b1 from ⟨hll, hrl, hm1, H1.out.1, H1.out.2⟩)
            have k1 : IntKind.i64.wrap ((mid : Int) - (a : Int)) = (ll : Int) := wsub hll (by clear e1 e2 e8; have := HZ.out; have := HV.out; omega)
            have k2 : IntKind.i64.wrap ((b1 : Int) - (mid : Int)) = (rl : Int) := wsub hrl (by clear e1 e2 e8; clear k1; have := HZ.out; have := HV.out; omega)
            have k3 : IntKind.i64.wrap ((mid : Int) + 1) = (m1 : Int) := wadd1 hm1 (by clear e1 e2 e8; clear k1 k2; have := HZ.out; have := HV.out; omega)
            rw [hm1] at H4 H5 H6
            clear hll hrl hm1
            by_cases hlr : ll < rl
            · as_aux_lemma =>
                have k0 : (ll : Int) < (rl : Int) := by clear e1 e2 e8; clear k1 k2 k3; omega
                have CR := Lib.hid (fun w1 (g : Wr b w w1) (h : RowB w1 b d4) => HI.out a mid lim d4 w1 (by clear e1 e2 e8; clear k1 k2 k3; have := HZ.out; have := HV.out; omega) H2.out (by clear e1 e2 e8; clear k1 k2 k3; have := HZ.out; have := HV.out; omega) (by clear e1 e2 e8; clear k1 k2 k3; have := HZ.out; have := HV.out; omega) (by clear e1 e2 e8; clear k1 k2 k3; have := HZ.out; omega) H3.out h (HG.out w1 g))
                clear hlr HS1 H1 H2 H3 H4 HP
                go_wp2_with (first
                  | (go_at_call 103; (with_reducible refine CP.out.mono ?_); rintro e w1 ⟨rfl, g, r⟩; have GW := Lib.hid (HW1.out.trans g); have GR := Lib.hid r; clear g r)
                  | (go_at_call 73; (with_reducible refine (CR.out _ GW.out GR.out).mono ?_); rintro e w2 ⟨rfl, g, d5, r, r1, r2⟩; have GW2 := Lib.hid (GW.out.trans g); have GR2 := Lib.hid r; have GS2 := Lib.hid (H5.out d5 r1 r2); clear g r r1 r2))
                go_roundw
                case rel => exact ⟨m1, b1, lim, _, ap, d5, rfl, rfl, rfl, rfl, rfl, Lib.hid (by clear e1 e2 e8; clear k1 k2 k3 k0; have := HZ.out; have := HV.out; omega), GW2, GR2, GS2⟩
                case measure => clear e1 e2 e8; clear k1 k2 k3 k0; have := HZ.out; have := HV.out; simp [intOf]; omega
            · as_aux_lemma =>
                have k0 : ¬ (ll : Int) < (rl : Int) := by clear e1 e2 e8; clear k1 k2 k3; omega
                have CR := Lib.hid (fun w1 (g : Wr b w w1) (h : RowB w1 b d4) => HI.out m1 b1 lim d4 w1 (by clear e1 e2 e8; clear k1 k2 k3; have := HZ.out; have := HV.out; omega) H2.out (by clear e1 e2 e8; clear k1 k2 k3; have := HZ.out; have := HV.out; omega) (by clear e1 e2 e8; clear k1 k2 k3; have := HZ.out; have := HV.out; omega) (by clear e1 e2 e8; clear k1 k2 k3; have := HZ.out; omega) H4.out h (HG.out w1 g))
                clear hlr HS1 H1 H2 H3 H4 HP
                go_wp2_with (first
                  | (go_at_call 103; (with_reducible refine CP.out.mono ?_); rintro e w1 ⟨rfl, g, r⟩; have GW := Lib.hid (HW1.out.trans g); have GR := Lib.hid r; clear g r)
                  | (go_at_call 73; (with_reducible refine (CR.out _ GW.out GR.out).mono ?_); rintro e w2 ⟨rfl, g, d5, r, r1, r2⟩; have GW2 := Lib.hid (GW.out.trans g); have GR2 := Lib.hid r; have GS2 := Lib.hid (H6.out d5 r1 r2); clear g r r1 r2))
                go_roundw
                case rel => exact ⟨a, mid, lim, _, ap, d5, rfl, rfl, rfl, rfl, rfl, Lib.hid (by clear e1 e2 e8; clear k1 k2 k3 k0; have := HZ.out; have := HV.out; omega), GW2, GR2, GS2⟩
                case measure => clear e1 e2 e8; clear k1 k2 k3 k0; have := HZ.out; have := HV.out; simp [intOf]; omega
          · obtain ⟨ap1, hap⟩ : ∃ ap1, ap1 + 1 = a := ⟨a - 1, by clear e1 e2 e8; omega⟩
            have z0 : 0 < a := by clear e1 e2 e8; omega
            have z1 : (ap1 : Int) < (n : Int) := by clear e1 e2 e8; have := HZ.out; omega
            have z2 : (p : Int) < (n : Int) := by clear e1 e2 e8; have := HZ.out; have := HP.out; omega
            have z3 : IntKind.i64.wrap ((a : Int) - 1) = (ap1 : Int) := wsub1 hap (by clear e1 e2 e8; have := HZ.out; omega)
            have HPA := Lib.hid (show a - 1 = ap1 by clear e1 e2 e8; clear z3; omega)
            obtain ⟨ca, -⟩ := HR1.out ap1 (by rw [HS1.out.1]; clear e1 e2 e8; clear z3; have := HZ.out; omega)
            obtain ⟨cp, -⟩ := HR1.out p (by rw [HS1.out.1]; clear e1 e2 e8; clear z3; have := HZ.out; have := HP.out; omega)
            by_cases hl : d1[ap1]! < d1[p]!
            · have C := Lib.hid (fun w1 => show Calls Tryd.prog 93 #[.int .u8 d1[ap1]!, .int .u8 d1[p]!] w1 fun e w' => e = .returned (.bool true) ∧ w' = w1 by have := Less8_any d1[ap1]! d1[p]! w1; rwa [decide_eq_true hl] at this)
              generalize d1[ap1]! = x at C ca cp
              generalize d1[p]! = y at C ca cp
              clear hl hap haz
              go_wp2_with fail
              go_quiet ((go_at_call 93; with_reducible exact Calls.quiet_of_same (C.out _)))
              clear C ca cp z0 z1 z2 z3
              replace HW1 := Lib.hid (HW1.out.drewN nq)
              replace HR1 := Lib.hid (show RowB (wr.drewN nq) b d1 from HR1.out)
              generalize wr.drewN nq = wr at *
              have CP := Lib.hid (part_any b cap n a b1 p d1 wr HS1.out.1 hn (by clear e1 e2 e8; have := HZ.out; omega) (by clear e1 e2 e8; have := HZ.out; omega) (by clear e1 e2 e8; have := HZ.out; have := HP.out; omega) HR1.out)
              obtain ⟨hr1, hr2, hr3, hr4, hr5, hr6⟩ := HS1.out.part (p := p) (by clear e1 e2 e8; have := HZ.out; omega) HP.out.1 HP.out.2
              obtain ⟨rr, hrr⟩ : ∃ rr, partition ltInt d1 a b1 p = rr := ⟨_, rfl⟩
              rw [hrr] at CP hr1 hr2 hr3 hr4 hr5 hr6
              clear hrr
              obtain ⟨mid, ap, d4⟩ := rr
              simp only [] at CP hr1 hr2 hr3 hr4 hr5 hr6
              have H1 := Lib.hid hr1
              have H2 := Lib.hid hr2
              have H3 := Lib.hid hr3
              have H4 := Lib.hid hr4
              have H5 := Lib.hid hr5
              have H6 := Lib.hid hr6
              clear hr1 hr2 hr3 hr4 hr5 hr6
              obtain ⟨ll, hll⟩ : ∃ ll, ll + a = mid := ⟨mid - a, by clear e1 e2 e8; have := H1.out; omega⟩
              obtain ⟨rl, hrl⟩ : ∃ rl, rl + mid = b1 := ⟨b1 - mid, by clear e1 e2 e8; have := H1.out; omega⟩
              obtain ⟨m1, hm1⟩ : ∃ m1, mid + 1 = m1 := ⟨_, rfl⟩
              have HV := Lib.hid (show ll + a = mid ∧ rl + mid = b1 ∧ mid + 1 = m1 ∧ a ≤ mid ∧ mid < b1 from ⟨hll, hrl, hm1, H1.out.1, H1.out.2⟩)
              have k1 : IntKind.i64.wrap ((mid : Int) - (a : Int)) = (ll : Int) := wsub hll (by clear e1 e2 e8; have := HZ.out; have := HV.out; omega)
              have k2 : IntKind.i64.wrap ((b1 : Int) - (mid : Int)) = (rl : Int) := wsub hrl (by clear e1 e2 e8; clear k1; have := HZ.out; have := HV.out; omega)
              have k3 : IntKind.i64.wrap ((mid : Int) + 1) = (m1 : Int) := wadd1 hm1 (by clear e1 e2 e8; clear k1 k2; have := HZ.out; have := HV.out; omega)
              rw [hm1] at H4 H5 H6
              clear hll hrl hm1
              by_cases hlr : ll < rl
              · as_aux_lemma =>
                  have k0 : (ll : Int) < (rl : Int) := by clear e1 e2 e8; clear k1 k2 k3; omega
                  have CR := Lib.hid (fun w1 (g : Wr b w w1) (h : RowB w1 b d4) => HI.out a mid lim d4 w1 (by clear e1 e2 e8; clear k1 k2 k3; have := HZ.out; have := HV.out; omega) H2.out (by clear e1 e2 e8; clear k1 k2 k3; have := HZ.out; have := HV.out; omega) (by clear e1 e2 e8; clear k1 k2 k3; have := HZ.out; have := HV.out; omega) (by clear e1 e2 e8; clear k1 k2 k3; have := HZ.out; omega) H3.out h (HG.out w1 g))
                  clear hlr HS1 H1 H2 H3 H4 HP
                  go_wp2_with (first
                    | (go_at_call 103; (with_reducible refine CP.out.mono ?_); rintro e w1 ⟨rfl, g, r⟩; have GW := Lib.hid (HW1.out.trans g); have GR := Lib.hid r; clear g r)
                    | (go_at_call 73; (with_reducible refine (CR.out _ GW.out GR.out).mono ?_); rintro e w2 ⟨rfl, g, d5, r, r1, r2⟩; have GW2 := Lib.hid (GW.out.trans g); have GR2 := Lib.hid r; have GS2 := Lib.hid (H5.out d5 r1 r2); clear g r r1 r2))
                  go_roundw
                  case rel => exact ⟨m1, b1, lim, _, ap, d5, rfl, rfl, rfl, rfl, rfl, Lib.hid (by clear e1 e2 e8; clear k1 k2 k3 k0; have := HZ.out; have := HV.out; omega), GW2, GR2, GS2⟩
                  case measure => clear e1 e2 e8; clear k1 k2 k3 k0; have := HZ.out; have := HV.out; simp [intOf]; omega
              · as_aux_lemma =>
                  have k0 : ¬ (ll : Int) < (rl : Int) := by clear e1 e2 e8; clear k1 k2 k3; omega
                  have CR := Lib.hid (fun w1 (g : Wr b w w1) (h : RowB w1 b d4) => HI.out m1 b1 lim d4 w1 (by clear e1 e2 e8; clear k1 k2 k3; have := HZ.out; have := HV.out; omega) H2.out (by clear e1 e2 e8; clear k1 k2 k3; have := HZ.out; have := HV.out; omega) (by clear e1 e2 e8; clear k1 k2 k3; have := HZ.out; have := HV.out; omega) (by clear e1 e2 e8; clear k1 k2 k3; have := HZ.out; omega) H4.out h (HG.out w1 g))
                  clear hlr HS1 H1 H2 H3 H4 HP
                  go_wp2_with (first
                    | (go_at_call 103; (with_reducible refine CP.out.mono ?_); rintro e w1 ⟨rfl, g, r⟩; have GW := Lib.hid (HW1.out.trans g); have GR := Lib.hid r; clear g r)
                    | (go_at_call 73; (with_reducible refine (CR.out _ GW.out GR.out).mono ?_); rintro e w2 ⟨rfl, g, d5, r, r1, r2⟩; have GW2 := Lib.hid (GW.out.trans g); have GR2 := Lib.hid r; have GS2 := Lib.hid (H6.out d5 r1 r2); clear g r r1 r2))
                  go_roundw
                  case rel => exact ⟨a, mid, lim, _, ap, d5, rfl, rfl, rfl, rfl, rfl, Lib.hid (by clear e1 e2 e8; clear k1 k2 k3 k0; have := HZ.out; have := HV.out; omega), GW2, GR2, GS2⟩
                  case measure => clear e1 e2 e8; clear k1 k2 k3 k0; have := HZ.out; have := HV.out; simp [intOf]; omega
            · have C := Lib.hid (fun w1 => show Calls Tryd.prog 93 #[.int .u8 d1[ap1]!, .int .u8 d1[p]!] w1 fun e w' => e = .returned (.bool false) ∧ w' = w1 by have := Less8_any d1[ap1]! d1[p]! w1; rwa [decide_eq_false hl] at this)
              obtain ⟨hr1, hr2, hr3⟩ := HS1.out.equal (p := p) (by clear e1 e2 e8; clear z3; have := HZ.out; omega) z0 HP.out.1 HP.out.2 (by rw [HPA.out]; exact hl)
              generalize d1[ap1]! = x at C ca cp
              generalize d1[p]! = y at C ca cp
              clear hl hap haz
              go_wp2_with fail
              go_quiet ((go_at_call 93; with_reducible exact Calls.quiet_of_same (C.out _)))
              clear C ca cp z0 z1 z2 z3
              replace HW1 := Lib.hid (HW1.out.drewN nq)
              replace HR1 := Lib.hid (show RowB (wr.drewN nq) b d1 from HR1.out)
              generalize wr.drewN nq = wr at *
              have CP := Lib.hid (peq_any b cap n a b1 p d1 wr HS1.out.1 hn (by clear e1 e2 e8; have := HZ.out; omega) (by clear e1 e2 e8; have := HZ.out; omega) (by clear e1 e2 e8; have := HZ.out; have := HP.out; omega) HR1.out)
              obtain ⟨rr, hrr⟩ : ∃ rr, partitionEqual ltInt d1 a b1 p = rr := ⟨_, rfl⟩
              rw [hrr] at CP hr1 hr2 hr3
              clear hrr
              obtain ⟨mid, d4⟩ := rr
              simp only [] at CP hr1 hr2 hr3
              have HV := Lib.hid (show a < mid ∧ mid ≤ b1 from ⟨hr1, hr2⟩)
              have GS2 := Lib.hid hr3
              clear hr1 hr2 hr3 HS1 HP
              go_wp2_with (go_at_call 102; (with_reducible refine CP.out.mono ?_); rintro e w1 ⟨rfl, g, r⟩; have GW := Lib.hid (HW1.out.trans g); have GR := Lib.hid r; clear g r)
              go_roundw
              case rel => exact ⟨mid, b1, lim, _, _, d4, rfl, rfl, rfl, rfl, rfl, Lib.hid (by clear e1 e2 e8; have := HZ.out; have := HV.out; omega), GW, GR, GS2⟩
              case measure => clear e1 e2 e8; have := HZ.out; have := HV.out; simp [intOf]; omega
      | decreasing =>
        cases wp with
        | true =>
          as_aux_lemma =>
          go_wp2_with (go_at_call 99; (with_reducible refine CC.out.mono ?_); rintro e w1 ⟨rfl, g⟩; have GW := Lib.hid (HW1.out.trans (Wr.of_gr g)); have GR := Lib.hid (HR1.out.gr g); clear g)
          have HR1' := GR
          have HW1' := GW
          clear HR1 HW1 CC GW GR
          have HR1 := HR1'
          have HW1 := HW1'
          clear HR1' HW1'
          generalize hw12 : w1 = wr at *
          clear hw12
          have CV := Lib.hid (rev_any b cap n a b1 d1 wr HS1.out.1 hn (by clear e1 e2 e8; have := HZ.out; omega) (by clear e1 e2 e8; have := HZ.out; omega) HR1.out)
          have HS2 := Lib.hid (HS1.out.perm (by clear e1 e2 e8; have := HZ.out; omega) (reverseRange_holds d1 a b1 (by clear e1 e2 e8; have := HZ.out; omega) (by rw [HS1.out.1]; clear e1 e2 e8; have := HZ.out; omega)))
          generalize reverseRange d1 a b1 = d2 at *
          clear HS1
          obtain ⟨p2, hp2⟩ : ∃ p2, p2 + p = b1 - 1 + a := ⟨b1 - 1 + a - p, by clear e1 e2 e8; have := HP.out; have := HZ.out; omega⟩
          obtain ⟨pa, hpa⟩ : ∃ pa, pa + a = p := ⟨p - a, by clear e1 e2 e8; have := HP.out; omega⟩
          obtain ⟨bm, hbm⟩ : ∃ bm, bm + 1 = b1 := ⟨b1 - 1, by clear e1 e2 e8; have := HZ.out; omega⟩
          have HP2 := Lib.hid (show a ≤ p2 ∧ p2 < b1 by clear e1 e2 e8; have := HP.out; have := HZ.out; omega)
          have j1 : IntKind.i64.wrap ((b1 : Int) - 1) = (bm : Int) := wsub1 hbm (by clear e1 e2 e8; have := HZ.out; omega)
          have j2 : IntKind.i64.wrap ((p : Int) - (a : Int)) = (pa : Int) := wsub hpa (by clear e1 e2 e8; clear j1; have := HP.out; have := HZ.out; omega)
          have j3 : IntKind.i64.wrap ((bm : Int) - (pa : Int)) = (p2 : Int) := wsub (by clear e1 e2 e8; clear j1 j2; have := HP.out; have := HZ.out; omega) (by clear e1 e2 e8; clear j1 j2; have := HZ.out; omega)
          clear hp2 hpa hbm HP
          go_wp2_with (go_at_call 100; (with_reducible refine CV.out.mono ?_); rintro e w2 ⟨rfl, g, r⟩; have GW := Lib.hid (HW1.out.trans g); have GR := Lib.hid r; clear g r)
          have HP := HP2
          have HR1' := GR
          have HW1' := GW
          clear HR1 HW1 CV GW GR HP2 j1 j2 j3
          have HR1 := HR1'
          have HW1 := HW1'
          have HS1 := HS2
          clear HR1' HW1' HS2
          generalize hw12 : w2 = wr at *
          clear hw12
          generalize hd12 : d2 = d1 at *
          clear hd12
          generalize hp12 : p2 = p at *
          clear hp12
          have CS := Lib.hid (pins_any b cap n a b1 d1 wr HS1.out.1 hn (by clear e1 e2 e8; have := HZ.out; omega) (by clear e1 e2 e8; have := HZ.out; omega) HR1.out)
          have hpi := partialInsertionSort_holds (lt := ltInt) swo_ltInt d1 a b1 (by clear e1 e2 e8; have := HZ.out; omega) (by rw [HS1.out.1]; clear e1 e2 e8; have := HZ.out; omega) HS1.out.2.1
          obtain ⟨pp, hpp⟩ : ∃ pp, partialInsertionSort ltInt d1 a b1 = pp := ⟨_, rfl⟩
          rw [hpp] at CS hpi
          clear hpp
          obtain ⟨d2, tt⟩ := pp
          simp only [] at CS hpi
          cases tt with
          | true =>
            have HO := Lib.hid (HS1.out.2.2 d2 hpi.1 (hpi.2 rfl))
            clear hpi HS1
            go_wp2_with (go_at_call 101; (with_reducible refine CS.out.mono ?_); rintro e w3 ⟨rfl, g, r⟩; have GW := Lib.hid (HW1.out.trans g); have GR := Lib.hid r; clear g r)
            go_end0
            exact ⟨rfl, GW.out, d2, GR.out, HO.out.1, HO.out.2⟩
          | false =>
            have HS2 := Lib.hid (HS1.out.perm (by clear e1 e2 e8; have := HZ.out; omega) hpi.1)
            clear hpi HS1
            go_wp2_with (go_at_call 101; (with_reducible refine CS.out.mono ?_); rintro e w3 ⟨rfl, g, r⟩; have GW := Lib.hid (HW1.out.trans g); have GR := Lib.hid r; clear g r)
            have HR1' := GR
            have HW1' := GW
            clear HR1 HW1 CS GW GR
            have HR1 := HR1'
            have HW1 := HW1'
            have HS1 := HS2
            clear HR1' HW1' HS2
            generalize hw12 : w3 = wr at *
            clear hw12
            generalize hd12 : d2 = d1 at *
            clear hd12
            by_cases haz : a = 0
            · have z0 : ¬ 0 < a := by clear e1 e2 e8; omega
              have z0' : ¬ (0 : Int) < (a : Int) := by clear e1 e2 e8; omega
              clear haz
              go_wp2_with fail
              go_quiet (fail)
              clear z0 z0'
              replace HW1 := Lib.hid (HW1.out.drewN nq)
              replace HR1 := Lib.hid (show RowB (wr.drewN nq) b d1 from HR1.out)
              generalize wr.drewN nq = wr at *
              have CP := Lib.hid (part_any b cap n a b1 p d1 wr HS1.out.1 hn (by clear e1 e2 e8; have := HZ.out; omega) (by clear e1 e2 e8; have := HZ.out; omega) (by clear e1 e2 e8; have := HZ.out; have := HP.out; omega) HR1.out)
              obtain ⟨hr1, hr2, hr3, hr4, hr5, hr6⟩ := HS1.out.part (p := p) (by clear e1 e2 e8; have := HZ.out; omega) HP.out.1 HP.out.2
              obtain ⟨rr, hrr⟩ : ∃ rr, partition ltInt d1 a b1 p = rr := ⟨_, rfl⟩
              rw [hrr] at CP hr1 hr2 hr3 hr4 hr5 hr6
              clear hrr
              obtain ⟨mid, ap, d4⟩ := rr
              simp only [] at CP hr1 hr2 hr3 hr4 hr5 hr6
              have H1 := Lib.hid hr1
              have H2 := Lib.hid hr2
              have H3 := Lib.hid hr3
              have H4 := Lib.hid hr4
              have H5 := Lib.hid hr5
              have H6 := Lib.hid hr6
              clear hr1 hr2 hr3 hr4 hr5 hr6
              obtain ⟨ll, hll⟩ : ∃ ll, ll + a = mid := ⟨mid - a, by clear e1 e2 e8; have := H1.out; omega⟩
              obtain ⟨rl, hrl⟩ : ∃ rl, rl + mid = b1 := ⟨b1 - mid, by clear e1 e2 e8; have := H1.out; omega⟩
              obtain ⟨m1, hm1⟩ : ∃ m1, mid + 1 = m1 := ⟨_, rfl⟩
              have HV := Lib.hid (show ll + a = mid ∧ rl + mid = b1 ∧ mid + 1 = m1 ∧ a ≤ mid ∧ mid < b1 from ⟨hll, hrl, hm1, H1.out.1, H1.out.2⟩)
              have k1 : IntKind.i64.wrap ((mid : Int) - (a : Int)) = (ll : Int) := wsub hll (by clear e1 e2 e8; have := HZ.out; have := HV.out; omega)
              have k2 : IntKind.i64.wrap ((b1 : Int) - (mid : Int)) = (rl : Int) := wsub hrl (by clear e1 e2 e8; clear k1; have := HZ.out; have := HV.out; omega)
              have k3 : IntKind.i64.wrap ((mid : Int) + 1) = (m1 : Int) := wadd1 hm1 (by clear e1 e2 e8; clear k1 k2; have := HZ.out; have := HV.out; omega)
              rw [hm1] at H4 H5 H6
              clear hll hrl hm1
              by_cases hlr : ll < rl
              · as_aux_lemma =>
                  have k0 : (ll : Int) < (rl : Int) := by clear e1 e2 e8; clear k1 k2 k3; omega
                  have CR := Lib.hid (fun w1 (g : Wr b w w1) (h : RowB w1 b d4) => HI.out a mid lim d4 w1 (by clear e1 e2 e8; clear k1 k2 k3; have := HZ.out; have := HV.out; omega) H2.out (by clear e1 e2 e8; clear k1 k2 k3; have := HZ.out; have := HV.out; omega) (by clear e1 e2 e8; clear k1 k2 k3; have := HZ.out; have := HV.out; omega) (by clear e1 e2 e8; clear k1 k2 k3; have := HZ.out; omega) H3.out h (HG.out w1 g))
                  clear hlr HS1 H1 H2 H3 H4 HP
                  go_wp2_with (first
                    | (go_at_call 103; (with_reducible refine CP.out.mono ?_); rintro e w1 ⟨rfl, g, r⟩; have GW := Lib.hid (HW1.out.trans g); have GR := Lib.hid r; clear g r)
                    | (go_at_call 73; (with_reducible refine (CR.out _ GW.out GR.out).mono ?_); rintro e w2 ⟨rfl, g, d5, r, r1, r2⟩; have GW2 := Lib.hid (GW.out.trans g); have GR2 := Lib.hid r; have GS2 := Lib.hid (H5.out d5 r1 r2); clear g r r1 r2))
                  go_roundw
                  case rel => exact ⟨m1, b1, lim, _, ap, d5, rfl, rfl, rfl, rfl, rfl, Lib.hid (by clear e1 e2 e8; clear k1 k2 k3 k0; have := HZ.out; have := HV.out; omega), GW2, GR2, GS2⟩
                  case measure => clear e1 e2 e8; clear k1 k2 k3 k0; have := HZ.out; have := HV.out; simp [intOf]; omega
              · as_aux_lemma =>
                  have k0 : ¬ (ll : Int) < (rl : Int) := by clear e1 e2 e8; clear k1 k2 k3; omega
                  have CR := Lib.hid (fun w1 (g : Wr b w w1) (h : RowB w1 b d4) => HI.out m1 b1 lim d4 w1 (by clear e1 e2 e8; clear k1 k2 k3; have := HZ.out; have := HV.out; omega) H2.out (by clear e1 e2 e8; clear k1 k2 k3; have := HZ.out; have := HV.out; omega) (by clear e1 e2 e8; clear k1 k2 k3; have := HZ.out; have := HV.out; omega) (by clear e1 e2 e8; clear k1 k2 k3; have := HZ.out; omega) H4.out h (HG.out w1 g))
                  clear hlr HS1 H1 H2 H3 H4 HP
                  go_wp2_with (first
                    | (go_at_call 103; (with_reducible refine CP.out.mono ?_); rintro e w1 ⟨rfl, g, r⟩; have GW := Lib.hid (HW1.out.trans g); have GR := Lib.hid r; clear g r)
                    | (go_at_call 73; (with_reducible refine (CR.out _ GW.out GR.out).mono ?_); rintro e w2 ⟨rfl, g, d5, r, r1, r2⟩; have GW2 := Lib.hid (GW.out.trans g); have GR2 := Lib.hid r; have GS2 := Lib.hid (H6.out d5 r1 r2); clear g r r1 r2))
                  go_roundw
                  case rel => exact ⟨a, mid, lim, _, ap, d5, rfl, rfl, rfl, rfl, rfl, Lib.hid (by clear e1 e2 e8; clear k1 k2 k3 k0; have := HZ.out; have := HV.out; omega), GW2, GR2, GS2⟩
                  case measure => clear e1 e2 e8; clear k1 k2 k3 k0; have := HZ.out; have := HV.out; simp [intOf]; omega
            · obtain ⟨ap1, hap⟩ : ∃ ap1, ap1 + 1 = a := ⟨a - 1, by clear e1 e2 e8; omega⟩
              have z0 : 0 < a := by clear e1 e2 e8; omega
              have z1 : (ap1 : Int) < (n : Int) := by clear e1 e2 e8; have := HZ.out; omega
              have z2 : (p : Int) < (n : Int) := by clear e1 e2 e8; have := HZ.out; have := HP.out; omega
              have z3 : IntKind.i64.wrap ((a : Int) - 1) = (ap1 : Int) := wsub1 hap (by clear e1 e2 e8; have := HZ.out; omega)
              have HPA := Lib.hid (show a - 1 = ap1 by clear e1 e2 e8; clear z3; omega)
              obtain ⟨ca, -⟩ := HR1.out ap1 (by rw [HS1.out.1]; clear e1 e2 e8; clear z3; have := HZ.out; omega)
              obtain ⟨cp, -⟩ := HR1.out p (by rw [HS1.out.1]; clear e1 e2 e8; clear z3; have := HZ.out; have := HP.out; omega)
              by_cases hl : d1[ap1]! < d1[p]!
              · have C := Lib.hid (fun w1 => show Calls Tryd.prog 93 #[.int .u8 d1[ap1]!, .int .u8 d1[p]!] w1 fun e w' => e = .returned (.bool true) ∧ w' = w1 by have := Less8_any d1[ap1]! d1[p]! w1; rwa [decide_eq_true hl] at this)
                generalize d1[ap1]! = x at C ca cp
                generalize d1[p]! = y at C ca cp
                clear hl hap haz
                go_wp2_with fail
                go_quiet ((go_at_call 93; with_reducible exact Calls.quiet_of_same (C.out _)))
                clear C ca cp z0 z1 z2 z3
                replace HW1 := Lib.hid (HW1.out.drewN nq)
                replace HR1 := Lib.hid (show RowB (wr.drewN nq) b d1 from HR1.out)
                generalize wr.drewN nq = wr at *
                have CP := Lib.hid (part_any b cap n a b1 p d1 wr HS1.out.1 hn (by clear e1 e2 e8; have := HZ.out; omega) (by clear e1 e2 e8; have := HZ.out; omega) (by clear e1 e2 e8; have := HZ.out; have := HP.out; omega) HR1.out)
                obtain ⟨hr1, hr2, hr3, hr4, hr5, hr6⟩ := HS1.out.part (p := p) (by clear e1 e2 e8; have := HZ.out; omega) HP.out.1 HP.out.2
                obtain ⟨rr, hrr⟩ : ∃ rr, partition ltInt d1 a b1 p = rr := ⟨_, rfl⟩
                rw [hrr] at CP hr1 hr2 hr3 hr4 hr5 hr6
                clear hrr
                obtain ⟨mid, ap, d4⟩ := rr
                simp only [] at CP hr1 hr2 hr3 hr4 hr5 hr6
                have H1 := Lib.hid hr1
                have H2 := Lib.hid hr2
                have H3 := Lib.hid hr3
                have H4 := Lib.hid hr4
                have H5 := Lib.hid hr5
                have H6 := Lib.hid hr6
                clear hr1 hr2 hr3 hr4 hr5 hr6
                obtain ⟨ll, hll⟩ : ∃ ll, ll + a = mid := ⟨mid - a, by clear e1 e2 e8; have := H1.out; omega⟩
                obtain ⟨rl, hrl⟩ : ∃ rl, rl + mid = b1 := ⟨b1 - mid, by clear e1 e2 e8; have := H1.out; omega⟩
                obtain ⟨m1, hm1⟩ : ∃ m1, mid + 1 = m1 := ⟨_, rfl⟩
                have HV := Lib.hid (show ll + a = mid ∧ rl + mid = b1 ∧ mid + 1 = m1 ∧ a ≤ mid ∧ mid < b1 from ⟨hll, hrl, hm1, H1.out.1, H1.out.2⟩)
                have k1 : IntKind.i64.wrap ((mid : Int) - (a : Int)) = (ll : Int) := wsub hll (by clear e1 e2 e8; have := HZ.out; have := HV.out; omega)
                have k2 : IntKind.i64.wrap ((b1 : Int) - (mid : Int)) = (rl : Int) := wsub hrl (by clear e1 e2 e8; clear k1; have := HZ.out; have := HV.out; omega)
                have k3 : IntKind.i64.wrap ((mid : Int) + 1) = (m1 : Int) := wadd1 hm1 (by clear e1 e2 e8; clear k1 k2; have := HZ.out; have := HV.out; omega)
                rw [hm1] at H4 H5 H6
                clear hll hrl hm1
                by_cases hlr : ll < rl
                · as_aux_lemma =>
                    have k0 : (ll : Int) < (rl : Int) := by clear e1 e2 e8; clear k1 k2 k3; omega
                    have CR := Lib.hid (fun w1 (g : Wr b w w1) (h : RowB w1 b d4) => HI.out a mid lim d4 w1 (by clear e1 e2 e8; clear k1 k2 k3; have := HZ.out; have := HV.out; omega) H2.out (by clear e1 e2 e8; clear k1 k2 k3; have := HZ.out; have := HV.out; omega) (by clear e1 e2 e8; clear k1 k2 k3; have := HZ.out; have := HV.out; omega) (by clear e1 e2 e8; clear k1 k2 k3; have := HZ.out; omega) H3.out h (HG.out w1 g))
                    clear hlr HS1 H1 H2 H3 H4 HP
                    go_wp2_with (first
                      | (go_at_call 103; (with_reducible refine CP.out.mono ?_); rintro e w1 ⟨rfl, g, r⟩; have GW := Lib.hid (HW1.out.trans g); have GR := Lib.hid r; clear g r)
                      | (go_at_call 73; (with_reducible refine (CR.out _ GW.out GR.out).mono ?_); rintro e w2 ⟨rfl, g, d5, r, r1, r2⟩; have GW2 := Lib.hid (GW.out.trans g); have GR2 := Lib.hid r; have GS2 := Lib.hid (H5.out d5 r1 r2); clear g r r1 r2))
                    go_roundw
                    case rel => exact ⟨m1, b1, lim, _, ap, d5, rfl, rfl, rfl, rfl, rfl, Lib.hid (by clear e1 e2 e8; clear k1 k2 k3 k0; have := HZ.out; have := HV.out; omega), GW2, GR2, GS2⟩
                    case measure => clear e1 e2 e8; clear k1 k2 k3 k0; have := HZ.out; have := HV.out; simp [intOf]; omega
                · as_aux_lemma =>
                    have k0 : ¬ (ll : Int) < (rl : Int) := by clear e1 e2 e8; clear k1 k2 k3; omega
                    have CR := Lib.hid (fun w1 (g : Wr b w w1) (h : RowB w1 b d4) => HI.out m1 b1 lim d4 w1 (by clear e1 e2 e8; clear k1 k2 k3; have := HZ.out; have := HV.out; omega) H2.out (by clear e1 e2 e8; clear k1 k2 k3; have := HZ.out; have := HV.out; omega) (by clear e1 e2 e8; clear k1 k2 k3; have := HZ.out; have := HV.out; omega) (by clear e1 e2 e8; clear k1 k2 k3; have := HZ.out; omega) H4.out h (HG.out w1 g))
                    clear hlr HS1 H1 H2 H3 H4 HP
                    go_wp2_with (first
                      | (go_at_call 103; (with_reducible refine CP.out.mono ?_); rintro e w1 ⟨rfl, g, r⟩; have GW := Lib.hid (HW1.out.trans g); have GR := Lib.hid r; clear g r)
                      | (go_at_call 73; (with_reducible refine (CR.out _ GW.out GR.out).mono ?_); rintro e w2 ⟨rfl, g, d5, r, r1, r2⟩; have GW2 := Lib.hid (GW.out.trans g); have GR2 := Lib.hid r; have GS2 := Lib.hid (H6.out d5 r1 r2); clear g r r1 r2))
                    go_roundw
                    case rel => exact ⟨a, mid, lim, _, ap, d5, rfl, rfl, rfl, rfl, rfl, Lib.hid (by clear e1 e2 e8; clear k1 k2 k3 k0; have := HZ.out; have := HV.out; omega), GW2, GR2, GS2⟩
                    case measure => clear e1 e2 e8; clear k1 k2 k3 k0; have := HZ.out; have := HV.out; simp [intOf]; omega
              · have C := Lib.hid (fun w1 => show Calls Tryd.prog 93 #[.int .u8 d1[ap1]!, .int .u8 d1[p]!] w1 fun e w' => e = .returned (.bool false) ∧ w' = w1 by have := Less8_any d1[ap1]! d1[p]! w1; rwa [decide_eq_false hl] at this)
                obtain ⟨hr1, hr2, hr3⟩ := HS1.out.equal (p := p) (by clear e1 e2 e8; clear z3; have := HZ.out; omega) z0 HP.out.1 HP.out.2 (by rw [HPA.out]; exact hl)
                generalize d1[ap1]! = x at C ca cp
                generalize d1[p]! = y at C ca cp
                clear hl hap haz
                go_wp2_with fail
                go_quiet ((go_at_call 93; with_reducible exact Calls.quiet_of_same (C.out _)))
                clear C ca cp z0 z1 z2 z3
                replace HW1 := Lib.hid (HW1.out.drewN nq)
                replace HR1 := Lib.hid (show RowB (wr.drewN nq) b d1 from HR1.out)
                generalize wr.drewN nq = wr at *
                have CP := Lib.hid (peq_any b cap n a b1 p d1 wr HS1.out.1 hn (by clear e1 e2 e8; have := HZ.out; omega) (by clear e1 e2 e8; have := HZ.out; omega) (by clear e1 e2 e8; have := HZ.out; have := HP.out; omega) HR1.out)
                obtain ⟨rr, hrr⟩ : ∃ rr, partitionEqual ltInt d1 a b1 p = rr := ⟨_, rfl⟩
                rw [hrr] at CP hr1 hr2 hr3
                clear hrr
                obtain ⟨mid, d4⟩ := rr
                simp only [] at CP hr1 hr2 hr3
                have HV := Lib.hid (show a < mid ∧ mid ≤ b1 from ⟨hr1, hr2⟩)
                have GS2 := Lib.hid hr3
                clear hr1 hr2 hr3 HS1 HP
                go_wp2_with (go_at_call 102; (with_reducible refine CP.out.mono ?_); rintro e w1 ⟨rfl, g, r⟩; have GW := Lib.hid (HW1.out.trans g); have GR := Lib.hid r; clear g r)
                go_roundw
                case rel => exact ⟨mid, b1, lim, _, _, d4, rfl, rfl, rfl, rfl, rfl, Lib.hid (by clear e1 e2 e8; have := HZ.out; have := HV.out; omega), GW, GR, GS2⟩
                case measure => clear e1 e2 e8; have := HZ.out; have := HV.out; simp [intOf]; omega
        | false =>
          as_aux_lemma =>
          go_wp2_with (go_at_call 99; (with_reducible refine CC.out.mono ?_); rintro e w1 ⟨rfl, g⟩; have GW := Lib.hid (HW1.out.trans (Wr.of_gr g)); have GR := Lib.hid (HR1.out.gr g); clear g)
          have HR1' := GR
          have HW1' := GW
          clear HR1 HW1 CC GW GR
          have HR1 := HR1'
          have HW1 := HW1'
          clear HR1' HW1'
          generalize hw12 : w1 = wr at *
          clear hw12
          have CV := Lib.hid (rev_any b cap n a b1 d1 wr HS1.out.1 hn (by clear e1 e2 e8; have := HZ.out; omega) (by clear e1 e2 e8; have := HZ.out; omega) HR1.out)
          have HS2 := Lib.hid (HS1.out.perm (by clear e1 e2 e8; have := HZ.out; omega) (reverseRange_holds d1 a b1 (by clear e1 e2 e8; have := HZ.out; omega) (by rw [HS1.out.1]; clear e1 e2 e8; have := HZ.out; omega)))
          generalize reverseRange d1 a b1 = d2 at *
          clear HS1
          obtain ⟨p2, hp2⟩ : ∃ p2, p2 + p = b1 - 1 + a := ⟨b1 - 1 + a - p, by clear e1 e2 e8; have := HP.out; have := HZ.out; omega⟩
          obtain ⟨pa, hpa⟩ : ∃ pa, pa + a = p := ⟨p - a, by clear e1 e2 e8; have := HP.out; omega⟩
          obtain ⟨bm, hbm⟩ : ∃ bm, bm + 1 = b1 := ⟨b1 - 1, by clear e1 e2 e8; have := HZ.out; omega⟩
          have HP2 := Lib.hid (show a ≤ p2 ∧ p2 < b1 by clear e1 e2 e8; have := HP.out; have := HZ.out; omega)
          have j1 : IntKind.i64.wrap ((b1 : Int) - 1) = (bm : Int) := wsub1 hbm (by clear e1 e2 e8; have := HZ.out; omega)
          have j2 : IntKind.i64.wrap ((p : Int) - (a : Int)) = (pa : Int) := wsub hpa (by clear e1 e2 e8; clear j1; have := HP.out; have := HZ.out; omega)
          have j3 : IntKind.i64.wrap ((bm : Int) - (pa : Int)) = (p2 : Int) := wsub (by clear e1 e2 e8; clear j1 j2; have := HP.out; have := HZ.out; omega) (by clear e1 e2 e8; clear j1 j2; have := HZ.out; omega)
          clear hp2 hpa hbm HP
          go_wp2_with (go_at_call 100; (with_reducible refine CV.out.mono ?_); rintro e w2 ⟨rfl, g, r⟩; have GW := Lib.hid (HW1.out.trans g); have GR := Lib.hid r; clear g r)
          have HP := HP2
          have HR1' := GR
          have HW1' := GW
          clear HR1 HW1 CV GW GR HP2 j1 j2 j3
          have HR1 := HR1'
          have HW1 := HW1'
          have HS1 := HS2
          clear HR1' HW1' HS2
          generalize hw12 : w2 = wr at *
          clear hw12
          generalize hd12 : d2 = d1 at *
          clear hd12
          generalize hp12 : p2 = p at *
          clear hp12
          by_cases haz : a = 0
          · have z0 : ¬ 0 < a := by clear e1 e2 e8; omega
            have z0' : ¬ (0 : Int) < (a : Int) := by clear e1 e2 e8; omega
            clear haz
            go_wp2_with fail
            go_quiet (fail)
            clear z0 z0'
            replace HW1 := Lib.hid (HW1.out.drewN nq)
            replace HR1 := Lib.hid (show RowB (wr.drewN nq) b d1 from HR1.out)
            generalize wr.drewN nq = wr at *
            have CP := Lib.hid (part_any b cap n a b1 p d1 wr HS1.out.1 hn (by clear e1 e2 e8; have := HZ.out; omega) (by clear e1 e2 e8; have := HZ.out; omega) (by clear e1 e2 e8; have := HZ.out; have := HP.out; omega) HR1.out)
            obtain ⟨hr1, hr2, hr3, hr4, hr5, hr6⟩ := HS1.out.part (p := p) (by clear e1 e2 e8; have := HZ.out; omega) HP.out.1 HP.out.2
            obtain ⟨rr, hrr⟩ : ∃ rr, partition ltInt d1 a b1 p = rr := ⟨_, rfl⟩
            rw [hrr] at CP hr1 hr2 hr3 hr4 hr5 hr6
            clear hrr
            obtain ⟨mid, ap, d4⟩ := rr
            simp only [] at CP hr1 hr2 hr3 hr4 hr5 hr6
            have H1 := Lib.hid hr1
            have H2 := Lib.hid hr2
            have H3 := Lib.hid hr3
            have H4 := Lib.hid hr4
            have H5 := Lib.hid hr5
            have H6 := Lib.hid hr6
            clear hr1 hr2 hr3 hr4 hr5 hr6
            obtain ⟨ll, hll⟩ : ∃ ll, ll + a = mid := ⟨mid - a, by clear e1 e2 e8; have := H1.out; omega⟩
            obtain ⟨rl, hrl⟩ : ∃ rl, rl + mid = b1 := ⟨b1 - mid, by clear e1 e2 e8; have := H1.out; omega⟩
            obtain ⟨m1, hm1⟩ : ∃ m1, mid + 1 = m1 := ⟨_, rfl⟩
            have HV := Lib.hid (show ll + a = mid ∧ rl + mid = b1 ∧ mid + 1 = m1 ∧ a ≤ mid ∧ mid < b1 from ⟨hll, hrl, hm1, H1.out.1, H1.out.2⟩)
            have k1 : IntKind.i64.wrap ((mid : Int) - (a : Int)) = (ll : Int) := wsub hll (by clear e1 e2 e8; have := HZ.out; have := HV.out; omega)
            have k2 : IntKind.i64.wrap ((b1 : Int) - (mid : Int)) = (rl : Int) := wsub hrl (by clear e1 e2 e8; clear k1; have := HZ.out; have := HV.out; omega)
            have k3 : IntKind.i64.wrap ((mid : Int) + 1) = (m1 : Int) := wadd1 hm1 (by clear e1 e2 e8; clear k1 k2; have := HZ.out; have := HV.out; omega)
            rw [hm1] at H4 H5 H6
            clear hll hrl hm1
            by_cases hlr : ll < rl
            · as_aux_lemma =>
                have k0 : (ll : Int) < (rl : Int) := by clear e1 e2 e8; clear k1 k2 k3; omega
                have CR := Lib.hid (fun w1 (g : Wr b w w1) (h : RowB w1 b d4) => HI.out a mid lim d4 w1 (by clear e1 e2 e8; clear k1 k2 k3; have := HZ.out; have := HV.out; omega) H2.out (by clear e1 e2 e8; clear k1 k2 k3; have := HZ.out; have := HV.out; omega) (by clear e1 e2 e8; clear k1 k2 k3; have := HZ.out; have := HV.out; omega) (by clear e1 e2 e8; clear k1 k2 k3; have := HZ.out; omega) H3.out h (HG.out w1 g))
                clear hlr HS1 H1 H2 H3 H4 HP
                go_wp2_with (first
                  | (go_at_call 103; (with_reducible refine CP.out.mono ?_); rintro e w1 ⟨rfl, g, r⟩; have GW := Lib.hid (HW1.out.trans g); have GR := Lib.hid r; clear g r)
                  | (go_at_call 73; (with_reducible refine (CR.out _ GW.out GR.out).mono ?_); rintro e w2 ⟨rfl, g, d5, r, r1, r2⟩; have GW2 := Lib.hid (GW.out.trans g); have GR2 := Lib.hid r; have GS2 := Lib.hid (H5.out d5 r1 r2); clear g r r1 r2))
                go_roundw
                case rel => exact ⟨m1, b1, lim, _, ap, d5, rfl, rfl, rfl, rfl, rfl, Lib.hid (by clear e1 e2 e8; clear k1 k2 k3 k0; have := HZ.out; have := HV.out; omega), GW2, GR2, GS2⟩
                case measure => clear e1 e2 e8; clear k1 k2 k3 k0; have := HZ.out; have := HV.out; simp [intOf]; omega
            · as_aux_lemma =>
                have k0 : ¬ (ll : Int) < (rl : Int) := by clear e1 e2 e8; clear k1 k2 k3; omega
                have CR := Lib.hid (fun w1 (g : Wr b w w1) (h : RowB w1 b d4) => HI.out m1 b1 lim d4 w1 (by clear e1 e2 e8; clear k1 k2 k3; have := HZ.out; have := HV.out; omega) H2.out (by clear e1 e2 e8; clear k1 k2 k3; have := HZ.out; have := HV.out; omega) (by clear e1 e2 e8; clear k1 k2 k3; have := HZ.out; have := HV.out; omega) (by clear e1 e2 e8; clear k1 k2 k3; have := HZ.out; omega) H4.out h (HG.out w1 g))
                clear hlr HS1 H1 H2 H3 H4 HP
                go_wp2_with (first
                  | (go_at_call 103; (with_reducible refine CP.out.mono ?_); rintro e w1 ⟨rfl, g, r⟩; have GW := Lib.hid (HW1.out.trans g); have GR := Lib.hid r; clear g r)
                  | (go_at_call 73; (with_reducible refine (CR.out _ GW.out GR.out).mono ?_); rintro e w2 ⟨rfl, g, d5, r, r1, r2⟩; have GW2 := Lib.hid (GW.out.trans g); have GR2 := Lib.hid r; have GS2 := Lib.hid (H6.out d5 r1 r2); clear g r r1 r2))
                go_roundw
                case rel => exact ⟨a, mid, lim, _, ap, d5, rfl, rfl, rfl, rfl, rfl, Lib.hid (by clear e1 e2 e8; clear k1 k2 k3 k0; have := HZ.out; have := HV.out; omega), GW2, GR2, GS2⟩
                case measure => clear e1 e2 e8; clear k1 k2 k3 k0; have := HZ.out; have := HV.out; simp [intOf]; omega
          · obtain ⟨ap1, hap⟩ : ∃ ap1, ap1 + 1 = a := ⟨a - 1, by clear e1 e2 e8; omega⟩
            have z0 : 0 < a := by clear e1 e2 e8; omega
            have z1 : (ap1 : Int) < (n : Int) := by clear e1 e2 e8; have := HZ.out; omega
            have z2 : (p : Int) < (n : Int) := by clear e1 e2 e8; have := HZ.out; have := HP.out; omega
            have z3 : IntKind.i64.wrap ((a : Int) - 1) = (ap1 : Int) := wsub1 hap (by clear e1 e2 e8; have := HZ.out; omega)
            have HPA := Lib.hid (show a - 1 = ap1 by clear e1 e2 e8; clear z3; omega)
            obtain ⟨ca, -⟩ := HR1.out ap1 (by rw [HS1.out.1]; clear e1 e2 e8; clear z3; have := HZ.out; omega)
            obtain ⟨cp, -⟩ := HR1.out p (by rw [HS1.out.1]; clear e1 e2 e8; clear z3; have := HZ.out; have := HP.out; omega)
            by_cases hl : d1[ap1]! < d1[p]!
            · have C := Lib.hid (fun w1 => show Calls Tryd.prog 93 #[.int .u8 d1[ap1]!, .int .u8 d1[p]!] w1 fun e w' => e = .returned (.bool true) ∧ w' = w1 by have := Less8_any d1[ap1]! d1[p]! w1; rwa [decide_eq_true hl] at this)
              generalize d1[ap1]! = x at C ca cp
              generalize d1[p]! = y at C ca cp
              clear hl hap haz
              go_wp2_with fail
              go_quiet ((go_at_call 93; with_reducible exact Calls.quiet_of_same (C.out _)))
              clear C ca cp z0 z1 z2 z3
              replace HW1 := Lib.hid (HW1.out.drewN nq)
              replace HR1 := Lib.hid (show RowB (wr.drewN nq) b d1 from HR1.out)
              generalize wr.drewN nq = wr at *
              have CP := Lib.hid (part_any b cap n a b1 p d1 wr HS1.out.1 hn (by clear e1 e2 e8; have := HZ.out; omega) (by clear e1 e2 e8; have := HZ.out; omega) (by clear e1 e2 e8; have := HZ.out; have := HP.out; omega) HR1.out)
              obtain ⟨hr1, hr2, hr3, hr4, hr5, hr6⟩ := HS1.out.part (p := p) (by clear e1 e2 e8; have := HZ.out; omega) HP.out.1 HP.out.2
              obtain ⟨rr, hrr⟩ : ∃ rr, partition ltInt d1 a b1 p = rr := ⟨_, rfl⟩
              rw [hrr] at CP hr1 hr2 hr3 hr4 hr5 hr6
              clear hrr
              obtain ⟨mid, ap, d4⟩ := rr
              simp only [] at CP hr1 hr2 hr3 hr4 hr5 hr6
              have H1 := Lib.hid hr1
              have H2 := Lib.hid hr2
              have H3 := Lib.hid hr3
              have H4 := Lib.hid hr4
              have H5 := Lib.hid hr5
              have H6 := Lib.hid hr6
              clear hr1 hr2 hr3 hr4 hr5 hr6
              obtain ⟨ll, hll⟩ : ∃ ll, ll + a = mid := ⟨mid - a, by clear e1 e2 e8; have := H1.out; omega⟩
              obtain ⟨rl, hrl⟩ : ∃ rl, rl + mid = b1 := ⟨b1 - mid, by clear e1 e2 e8; have := H1.out; omega⟩
              obtain ⟨m1, hm1⟩ : ∃ m1, mid + 1 = m1 := ⟨_, rfl⟩
              have HV := Lib.hid (show ll + a = mid ∧ rl + mid = b1 ∧ mid + 1 = m1 ∧ a ≤ mid ∧ mid < b1 from ⟨hll, hrl, hm1, H1.out.1, H1.out.2⟩)
              have k1 : IntKind.i64.wrap ((mid : Int) - (a : Int)) = (ll : Int) := wsub hll (by clear e1 e2 e8; have := HZ.out; have := HV.out; omega)
              have k2 : IntKind.i64.wrap ((b1 : Int) - (mid : Int)) = (rl : Int) := wsub hrl (by clear e1 e2 e8; clear k1; have := HZ.out; have := HV.out; omega)
              have k3 : IntKind.i64.wrap ((mid : Int) + 1) = (m1 : Int) := wadd1 hm1 (by clear e1 e2 e8; clear k1 k2; have := HZ.out; have := HV.out; omega)
              rw [hm1] at H4 H5 H6
              clear hll hrl hm1
              by_cases hlr : ll < rl
              · as_aux_lemma =>
                  have k0 : (ll : Int) < (rl : Int) := by clear e1 e2 e8; clear k1 k2 k3; omega
                  have CR := Lib.hid (fun w1 (g : Wr b w w1) (h : RowB w1 b d4) => HI.out a mid lim d4 w1 (by clear e1 e2 e8; clear k1 k2 k3; have := HZ.out; have := HV.out; omega) H2.out (by clear e1 e2 e8; clear k1 k2 k3; have := HZ.out; have := HV.out; omega) (by clear e1 e2 e8; clear k1 k2 k3; have := HZ.out; have := HV.out; omega) (by clear e1 e2 e8; clear k1 k2 k3; have := HZ.out; omega) H3.out h (HG.out w1 g))
                  clear hlr HS1 H1 H2 H3 H4 HP
                  go_wp2_with (first
                    | (go_at_call 103; (with_reducible refine CP.out.mono ?_); rintro e w1 ⟨rfl, g, r⟩; have GW := Lib.hid (HW1.out.trans g); have GR := Lib.hid r; clear g r)
                    | (go_at_call 73; (with_reducible refine (CR.out _ GW.out GR.out).mono ?_); rintro e w2 ⟨rfl, g, d5, r, r1, r2⟩; have GW2 := Lib.hid (GW.out.trans g); have GR2 := Lib.hid r; have GS2 := Lib.hid (H5.out d5 r1 r2); clear g r r1 r2))
                  go_roundw
                  case rel => exact ⟨m1, b1, lim, _, ap, d5, rfl, rfl, rfl, rfl, rfl, Lib.hid (by clear e1 e2 e8; clear k1 k2 k3 k0; have := HZ.out; have := HV.out; omega), GW2, GR2, GS2⟩
                  case measure => clear e1 e2 e8; clear k1 k2 k3 k0; have := HZ.out; have := HV.out; simp [intOf]; omega
              · as_aux_lemma =>
                  have k0 : ¬ (ll : Int) < (rl : Int) := by clear e1 e2 e8; clear k1 k2 k3; omega
                  have CR := Lib.hid (fun w1 (g : Wr b w w1) (h : RowB w1 b d4) => HI.out m1 b1 lim d4 w1 (by clear e1 e2 e8; clear k1 k2 k3; have := HZ.out; have := HV.out; omega) H2.out (by clear e1 e2 e8; clear k1 k2 k3; have := HZ.out; have := HV.out; omega) (by clear e1 e2 e8; clear k1 k2 k3; have := HZ.out; have := HV.out; omega) (by clear e1 e2 e8; clear k1 k2 k3; have := HZ.out; omega) H4.out h (HG.out w1 g))
                  clear hlr HS1 H1 H2 H3 H4 HP
                  go_wp2_with (first
                    | (go_at_call 103; (with_reducible refine CP.out.mono ?_); rintro e w1 ⟨rfl, g, r⟩; have GW := Lib.hid (HW1.out.trans g); have GR := Lib.hid r; clear g r)
                    | (go_at_call 73; (with_reducible refine (CR.out _ GW.out GR.out).mono ?_); rintro e w2 ⟨rfl, g, d5, r, r1, r2⟩; have GW2 := Lib.hid (GW.out.trans g); have GR2 := Lib.hid r; have GS2 := Lib.hid (H6.out d5 r1 r2); clear g r r1 r2))
                  go_roundw
                  case rel => exact ⟨a, mid, lim, _, ap, d5, rfl, rfl, rfl, rfl, rfl, Lib.hid (by clear e1 e2 e8; clear k1 k2 k3 k0; have := HZ.out; have := HV.out; omega), GW2, GR2, GS2⟩
                  case measure => clear e1 e2 e8; clear k1 k2 k3 k0; have := HZ.out; have := HV.out; simp [intOf]; omega
            · have C := Lib.hid (fun w1 => show Calls Tryd.prog 93 #[.int .u8 d1[ap1]!, .int .u8 d1[p]!] w1 fun e w' => e = .returned (.bool false) ∧ w' = w1 by have := Less8_any d1[ap1]! d1[p]! w1; rwa [decide_eq_false hl] at this)
              obtain ⟨hr1, hr2, hr3⟩ := HS1.out.equal (p := p) (by clear e1 e2 e8; clear z3; have := HZ.out; omega) z0 HP.out.1 HP.out.2 (by rw [HPA.out]; exact hl)
              generalize d1[ap1]! = x at C ca cp
              generalize d1[p]! = y at C ca cp
              clear hl hap haz
              go_wp2_with fail
              go_quiet ((go_at_call 93; with_reducible exact Calls.quiet_of_same (C.out _)))
              clear C ca cp z0 z1 z2 z3
              replace HW1 := Lib.hid (HW1.out.drewN nq)
              replace HR1 := Lib.hid (show RowB (wr.drewN nq) b d1 from HR1.out)
              generalize wr.drewN nq = wr at *
              have CP := Lib.hid (peq_any b cap n a b1 p d1 wr HS1.out.1 hn (by clear e1 e2 e8; have := HZ.out; omega) (by clear e1 e2 e8; have := HZ.out; omega) (by clear e1 e2 e8; have := HZ.out; have := HP.out; omega) HR1.out)
              obtain ⟨rr, hrr⟩ : ∃ rr, partitionEqual ltInt d1 a b1 p = rr := ⟨_, rfl⟩
              rw [hrr] at CP hr1 hr2 hr3
              clear hrr
              obtain ⟨mid, d4⟩ := rr
              simp only [] at CP hr1 hr2 hr3
              have HV := Lib.hid (show a < mid ∧ mid ≤ b1 from ⟨hr1, hr2⟩)
              have GS2 := Lib.hid hr3
              clear hr1 hr2 hr3 HS1 HP
              go_wp2_with (go_at_call 102; (with_reducible refine CP.out.mono ?_); rintro e w1 ⟨rfl, g, r⟩; have GW := Lib.hid (HW1.out.trans g); have GR := Lib.hid r; clear g r)
              go_roundw
              case rel => exact ⟨mid, b1, lim, _, _, d4, rfl, rfl, rfl, rfl, rfl, Lib.hid (by clear e1 e2 e8; have := HZ.out; have := HV.out; omega), GW, GR, GS2⟩
              case measure => clear e1 e2 e8; have := HZ.out; have := HV.out; simp [intOf]; omega
      | unknown =>
        cases wp with
        | true =>
          as_aux_lemma =>
          go_wp2_with (go_at_call 99; (with_reducible refine CC.out.mono ?_); rintro e w1 ⟨rfl, g⟩; have GW := Lib.hid (HW1.out.trans (Wr.of_gr g)); have GR := Lib.hid (HR1.out.gr g); clear g)
          have HR1' := GR
          have HW1' := GW
          clear HR1 HW1 CC GW GR
          have HR1 := HR1'
          have HW1 := HW1'
          clear HR1' HW1'
          generalize hw12 : w1 = wr at *
          clear hw12
          by_cases haz : a = 0
          · have z0 : ¬ 0 < a := by clear e1 e2 e8; omega
            have z0' : ¬ (0 : Int) < (a : Int) := by clear e1 e2 e8; omega
            clear haz
            go_wp2_with fail
            go_quiet (fail)
            clear z0 z0'
            replace HW1 := Lib.hid (HW1.out.drewN nq)
            replace HR1 := Lib.hid (show RowB (wr.drewN nq) b d1 from HR1.out)
            generalize wr.drewN nq = wr at *
            have CP := Lib.hid (part_any b cap n a b1 p d1 wr HS1.out.1 hn (by clear e1 e2 e8; have := HZ.out; omega) (by clear e1 e2 e8; have := HZ.out; omega) (by clear e1 e2 e8; have := HZ.out; have := HP.out; omega) HR1.out)
            obtain ⟨hr1, hr2, hr3, hr4, hr5, hr6⟩ := HS1.out.part (p := p) (by clear e1 e2 e8; have := HZ.out; omega) HP.out.1 HP.out.2
            obtain ⟨rr, hrr⟩ : ∃ rr, partition ltInt d1 a b1 p = rr := ⟨_, rfl⟩
            rw [hrr] at CP hr1 hr2 hr3 hr4 hr5 hr6
            clear hrr
            obtain ⟨mid, ap, d4⟩ := rr
            simp only [] at CP hr1 hr2 hr3 hr4 hr5 hr6
            have H1 := Lib.hid hr1
            have H2 := Lib.hid hr2
            have H3 := Lib.hid hr3
            have H4 := Lib.hid hr4
            have H5 := Lib.hid hr5
            have H6 := Lib.hid hr6
            clear hr1 hr2 hr3 hr4 hr5 hr6
            obtain ⟨ll, hll⟩ : ∃ ll, ll + a = mid := ⟨mid - a, by clear e1 e2 e8; have := H1.out; omega⟩
            obtain ⟨rl, hrl⟩ : ∃ rl, rl + mid = b1 := ⟨b1 - mid, by clear e1 e2 e8; have := H1.out; omega⟩
            obtain ⟨m1, hm1⟩ : ∃ m1, mid + 1 = m1 := ⟨_, rfl⟩
            have HV := Lib.hid (show ll + a = mid ∧ rl + mid = b1 ∧ mid + 1 = m1 ∧ a ≤ mid ∧ mid < b1 from ⟨hll, hrl, hm1, H1.out.1, H1.out.2⟩)
            have k1 : IntKind.i64.wrap ((mid : Int) - (a : Int)) = (ll : Int) := wsub hll (by clear e1 e2 e8; have := HZ.out; have := HV.out; omega)
            have k2 : IntKind.i64.wrap ((b1 : Int) - (mid : Int)) = (rl : Int) := wsub hrl (by clear e1 e2 e8; clear k1; have := HZ.out; have := HV.out; omega)
            have k3 : IntKind.i64.wrap ((mid : Int) + 1) = (m1 : Int) := wadd1 hm1 (by clear e1 e2 e8; clear k1 k2; have := HZ.out; have := HV.out; omega)
            rw [hm1] at H4 H5 H6
            clear hll hrl hm1
            by_cases hlr : ll < rl
            · as_aux_lemma =>
                have k0 : (ll : Int) < (rl : Int) := by clear e1 e2 e8; clear k1 k2 k3; omega
                have CR := Lib.hid (fun w1 (g : Wr b w w1) (h : RowB w1 b d4) => HI.out a mid lim d4 w1 (by clear e1 e2 e8; clear k1 k2 k3; have := HZ.out; have := HV.out; omega) H2.out (by clear e1 e2 e8; clear k1 k2 k3; have := HZ.out; have := HV.out; omega) (by clear e1 e2 e8; clear k1 k2 k3; have := HZ.out; have := HV.out; omega) (by clear e1 e2 e8; clear k1 k2 k3; have := HZ.out; omega) H3.out h (HG.out w1 g))
                clear hlr HS1 H1 H2 H3 H4 HP
                go_wp2_with (first
                  | (go_at_call 103; (with_reducible refine CP.out.mono ?_); rintro e w1 ⟨rfl, g, r⟩; have GW := Lib.hid (HW1.out.trans g); have GR := Lib.hid r; clear g r)
                  | (go_at_call 73; (with_reducible refine (CR.out _ GW.out GR.out).mono ?_); rintro e w2 ⟨rfl, g, d5, r, r1, r2⟩; have GW2 := Lib.hid (GW.out.trans g); have GR2 := Lib.hid r; have GS2 := Lib.hid (H5.out d5 r1 r2); clear g r r1 r2))
                go_roundw
                case rel => exact ⟨m1, b1, lim, _, ap, d5, rfl, rfl, rfl, rfl, rfl, Lib.hid (by clear e1 e2 e8; clear k1 k2 k3 k0; have := HZ.out; have := HV.out; omega), GW2, GR2, GS2⟩
                case measure => clear e1 e2 e8; clear k1 k2 k3 k0; have := HZ.out; have := HV.out; simp [intOf]; omega
            · as_aux_lemma =>
                have k0 : ¬ (ll : Int) < (rl : Int) := by clear e1 e2 e8; clear k1 k2 k3; omega
                have CR := Lib.hid (fun w1 (g : Wr b w w1) (h : RowB w1 b d4) => HI.out m1 b1 lim d4 w1 (by clear e1 e2 e8; clear k1 k2 k3; have := HZ.out; have := HV.out; omega) H2.out (by clear e1 e2 e8; clear k1 k2 k3; have := HZ.out; have := HV.out; omega) (by clear e1 e2 e8; clear k1 k2 k3; have := HZ.out; have := HV.out; omega) (by clear e1 e2 e8; clear k1 k2 k3; have := HZ.out; omega) H4.out h (HG.out w1 g))
                clear hlr HS1 H1 H2 H3 H4 HP
                go_wp2_with (first
                  | (go_at_call 103; (with_reducible refine CP.out.mono ?_); rintro e w1 ⟨rfl, g, r⟩; have GW := Lib.hid (HW1.out.trans g); have GR := Lib.hid r; clear g r)
                  | (go_at_call 73; (with_reducible refine (CR.out _ GW.out GR.out).mono ?_); rintro e w2 ⟨rfl, g, d5, r, r1, r2⟩; have GW2 := Lib.hid (GW.out.trans g); have GR2 := Lib.hid r; have GS2 := Lib.hid (H6.out d5 r1 r2); clear g r r1 r2))
                go_roundw
                case rel => exact ⟨a, mid, lim, _, ap, d5, rfl, rfl, rfl, rfl, rfl, Lib.hid (by clear e1 e2 e8; clear k1 k2 k3 k0; have := HZ.out; have := HV.out; omega), GW2, GR2, GS2⟩
                case measure => clear e1 e2 e8; clear k1 k2 k3 k0; have := HZ.out; have := HV.out; simp [intOf]; omega
          · obtain ⟨ap1, hap⟩ : ∃ ap1, ap1 + 1 = a := ⟨a - 1, by clear e1 e2 e8; omega⟩
            have z0 : 0 < a := by clear e1 e2 e8; omega
            have z1 : (ap1 : Int) < (n : Int) := by clear e1 e2 e8; have := HZ.out; omega
            have z2 : (p : Int) < (n : Int) := by clear e1 e2 e8; have := HZ.out; have := HP.out; omega
            have z3 : IntKind.i64.wrap ((a : Int) - 1) = (ap1 : Int) := wsub1 hap (by clear e1 e2 e8; have := HZ.out; omega)
            have HPA := Lib.hid (show a - 1 = ap1 by clear e1 e2 e8; clear z3; omega)
            obtain ⟨ca, -⟩ := HR1.out ap1 (by rw [HS1.out.1]; clear e1 e2 e8; clear z3; have := HZ.out; omega)
            obtain ⟨cp, -⟩ := HR1.out p (by rw [HS1.out.1]; clear e1 e2 e8; clear z3; have := HZ.out; have := HP.out; omega)
            by_cases hl : d1[ap1]! < d1[p]!
            · have C := Lib.hid (fun w1 => show Calls Tryd.prog 93 #[.int .u8 d1[ap1]!, .int .u8 d1[p]!] w1 fun e w' => e = .returned (.bool true) ∧ w' = w1 by have := Less8_any d1[ap1]! d1[p]! w1; rwa [decide_eq_true hl] at this)
              generalize d1[ap1]! = x at C ca cp
              generalize d1[p]! = y at C ca cp
              clear hl hap haz
              go_wp2_with fail
              go_quiet ((go_at_call 93; with_reducible exact Calls.quiet_of_same (C.out _)))
              clear C ca cp z0 z1 z2 z3
              replace HW1 := Lib.hid (HW1.out.drewN nq)
              replace HR1 := Lib.hid (show RowB (wr.drewN nq) b d1 from HR1.out)
              generalize wr.drewN nq = wr at *
              have CP := Lib.hid (part_any b cap n a b1 p d1 wr HS1.out.1 hn (by clear e1 e2 e8; have := HZ.out; omega) (by clear e1 e2 e8; have := HZ.out; omega) (by clear e1 e2 e8; have := HZ.out; have := HP.out; omega) HR1.out)
              obtain ⟨hr1, hr2, hr3, hr4, hr5, hr6⟩ := HS1.out.part (p := p) (by clear e1 e2 e8; have := HZ.out; omega) HP.out.1 HP.out.2
              obtain ⟨rr, hrr⟩ : ∃ rr, partition ltInt d1 a b1 p = rr := ⟨_, rfl⟩
              rw [hrr] at CP hr1 hr2 hr3 hr4 hr5 hr6
              clear hrr
              obtain ⟨mid, ap, d4⟩ := rr
              simp only [] at CP hr1 hr2 hr3 hr4 hr5 hr6
              have H1 := Lib.hid hr1
              have H2 := Lib.hid hr2
              have H3 := Lib.hid hr3
              have H4 := Lib.hid hr4
              have H5 := Lib.hid hr5
              have H6 := Lib.hid hr6
              clear hr1 hr2 hr3 hr4 hr5 hr6
              obtain ⟨ll, hll⟩ : ∃ ll, ll + a = mid := ⟨mid - a, by clear e1 e2 e8; have := H1.out; omega⟩
              obtain ⟨rl, hrl⟩ : ∃ rl, rl + mid = b1 := ⟨b1 - mid, by clear e1 e2 e8; have := H1.out; omega⟩
              obtain ⟨m1, hm1⟩ : ∃ m1, mid + 1 = m1 := ⟨_, rfl⟩
              have HV := Lib.hid (show ll + a = mid ∧ rl + mid = b1 ∧ mid + 1 = m1 ∧ a ≤ mid ∧ mid < b1 from ⟨hll, hrl, hm1, H1.out.1, H1.out.2⟩)
              have k1 : IntKind.i64.wrap ((mid : Int) - (a : Int)) = (ll : Int) := wsub hll (by clear e1 e2 e8; have := HZ.out; have := HV.out; omega)
              have k2 : IntKind.i64.wrap ((b1 : Int) - (mid : Int)) = (rl : Int) := wsub hrl (by clear e1 e2 e8; clear k1; have := HZ.out; have := HV.out; omega)
              have k3 : IntKind.i64.wrap ((mid : Int) + 1) = (m1 : Int) := wadd1 hm1 (by clear e1 e2 e8; clear k1 k2; have := HZ.out; have := HV.out; omega)
              rw [hm1] at H4 H5 H6
              clear hll hrl hm1
              by_cases hlr : ll < rl
              · as_aux_lemma =>
                  have k0 : (ll : Int) < (rl : Int) := by clear e1 e2 e8; clear k1 k2 k3; omega
                  have CR := Lib.hid (fun w1 (g : Wr b w w1) (h : RowB w1 b d4) => HI.out a mid lim d4 w1 (by clear e1 e2 e8; clear k1 k2 k3; have := HZ.out; have := HV.out; omega) H2.out (by clear e1 e2 e8; clear k1 k2 k3; have := HZ.out; have := HV.out; omega) (by clear e1 e2 e8; clear k1 k2 k3; have := HZ.out; have := HV.out; omega) (by clear e1 e2 e8; clear k1 k2 k3; have := HZ.out; omega) H3.out h (HG.out w1 g))
                  clear hlr HS1 H1 H2 H3 H4 HP
                  go_wp2_with (first
                    | (go_at_call 103; (with_reducible refine CP.out.mono ?_); rintro e w1 ⟨rfl, g, r⟩; have GW := Lib.hid (HW1.out.trans g); have GR := Lib.hid r; clear g r)
                    | (go_at_call 73; (with_reducible refine (CR.out _ GW.out GR.out).mono ?_); rintro e w2 ⟨rfl, g, d5, r, r1, r2⟩; have GW2 := Lib.hid (GW.out.trans g); have GR2 := Lib.hid r; have GS2 := Lib.hid (H5.out d5 r1 r2); clear g r r1 r2))
                  go_roundw
                  case rel => exact ⟨m1, b1, lim, _, ap, d5, rfl, rfl, rfl, rfl, rfl, Lib.hid (by clear e1 e2 e8; clear k1 k2 k3 k0; have := HZ.out; have := HV.out; omega), GW2, GR2, GS2⟩
                  case measure => clear e1 e2 e8; clear k1 k2 k3 k0; have := HZ.out; have := HV.out; simp [intOf]; omega
              · as_aux_lemma =>
                  have k0 : ¬ (ll : Int) < (rl : Int) := by clear e1 e2 e8; clear k1 k2 k3; omega
                  have CR := Lib.hid (fun w1 (g : Wr b w w1) (h : RowB w1 b d4) => HI.out m1 b1 lim d4 w1 (by clear e1 e2 e8; clear k1 k2 k3; have := HZ.out; have := HV.out; omega) H2.out (by clear e1 e2 e8; clear k1 k2 k3; have := HZ.out; have := HV.out; omega) (by clear e1 e2 e8; clear k1 k2 k3; have := HZ.out; have := HV.out; omega) (by clear e1 e2 e8; clear k1 k2 k3; have := HZ.out; omega) H4.out h (HG.out w1 g))
                  clear hlr HS1 H1 H2 H3 H4 HP
                  go_wp2_with (first
                    | (go_at_call 103; (with_reducible refine CP.out.mono ?_); rintro e w1 ⟨rfl, g, r⟩; have GW := Lib.hid (HW1.out.trans g); have GR := Lib.hid r; clear g r)
                    | (go_at_call 73; (with_reducible refine (CR.out _ GW.out GR.out).mono ?_); rintro e w2 ⟨rfl, g, d5, r, r1, r2⟩; have GW2 := Lib.hid (GW.out.trans g); have GR2 := Lib.hid r; have GS2 := Lib.hid (H6.out d5 r1 r2); clear g r r1 r2))
                  go_roundw
                  case rel => exact ⟨a, mid, lim, _, ap, d5, rfl, rfl, rfl, rfl, rfl, Lib.hid (by clear e1 e2 e8; clear k1 k2 k3 k0; have := HZ.out; have := HV.out; omega), GW2, GR2, GS2⟩
                  case measure => clear e1 e2 e8; clear k1 k2 k3 k0; have := HZ.out; have := HV.out; simp [intOf]; omega
            · have C := Lib.hid (fun w1 => show Calls Tryd.prog 93 #[.int .u8 d1[ap1]!, .int .u8 d1[p]!] w1 fun e w' => e = .returned (.bool false) ∧ w' = w1 by have := Less8_any d1[ap1]! d1[p]! w1; rwa [decide_eq_false hl] at this)
              obtain ⟨hr1, hr2, hr3⟩ := HS1.out.equal (p := p) (by clear e1 e2 e8; clear z3; have := HZ.out; omega) z0 HP.out.1 HP.out.2 (by rw [HPA.out]; exact hl)
              generalize d1[ap1]! = x at C ca cp
              generalize d1[p]! = y at C ca cp
              clear hl hap haz
              go_wp2_with fail
              go_quiet ((go_at_call 93; with_reducible exact Calls.quiet_of_same (C.out _)))
              clear C ca cp z0 z1 z2 z3
              replace HW1 := Lib.hid (HW1.out.drewN nq)
              replace HR1 := Lib.hid (show RowB (wr.drewN nq) b d1 from HR1.out)
              generalize wr.drewN nq = wr at *
              have CP := Lib.hid (peq_any b cap n a b1 p d1 wr HS1.out.1 hn (by clear e1 e2 e8; have := HZ.out; omega) (by clear e1 e2 e8; have := HZ.out; omega) (by clear e1 e2 e8; have := HZ.out; have := HP.out; omega) HR1.out)
              obtain ⟨rr, hrr⟩ : ∃ rr, partitionEqual ltInt d1 a b1 p = rr := ⟨_, rfl⟩
              rw [hrr] at CP hr1 hr2 hr3
              clear hrr
              obtain ⟨mid, d4⟩ := rr
              simp only [] at CP hr1 hr2 hr3
              have HV := Lib.hid (show a < mid ∧ mid ≤ b1 from ⟨hr1, hr2⟩)
              have GS2 := Lib.hid hr3
              clear hr1 hr2 hr3 HS1 HP
              go_wp2_with (go_at_call 102; (with_reducible refine CP.out.mono ?_); rintro e w1 ⟨rfl, g, r⟩; have GW := Lib.hid (HW1.out.trans g); have GR := Lib.hid r; clear g r)
              go_roundw
              case rel => exact ⟨mid, b1, lim, _, _, d4, rfl, rfl, rfl, rfl, rfl, Lib.hid (by clear e1 e2 e8; have := HZ.out; have := HV.out; omega), GW, GR, GS2⟩
              case measure => clear e1 e2 e8; have := HZ.out; have := HV.out; simp [intOf]; omega
        | false =>
          as_aux_lemma =>
          go_wp2_with (go_at_call 99; (with_reducible refine CC.out.mono ?_); rintro e w1 ⟨rfl, g⟩; have GW := Lib.hid (HW1.out.trans (Wr.of_gr g)); have GR := Lib.hid (HR1.out.gr g); clear g)
          have HR1' := GR
          have HW1' := GW
          clear HR1 HW1 CC GW GR
          have HR1 := HR1'
          have HW1 := HW1'
          clear HR1' HW1'
          generalize hw12 : w1 = wr at *
          clear hw12
          by_cases haz : a = 0
          · have z0 : ¬ 0 < a := by clear e1 e2 e8; omega
            have z0' : ¬ (0 : Int) < (a : Int) := by clear e1 e2 e8; omega
            clear haz
            go_wp2_with fail
            go_quiet (fail)
            clear z0 z0'
            replace HW1 := Lib.hid (HW1.out.drewN nq)
            replace HR1 := Lib.hid (show RowB (wr.drewN nq) b d1 from HR1.out)
            generalize wr.drewN nq = wr at *
            have CP := Lib.hid (part_any b cap n a b1 p d1 wr HS1.out.1 hn (by clear e1 e2 e8; have := HZ.out; omega) (by clear e1 e2 e8; have := HZ.out; omega) (by clear e1 e2 e8; have := HZ.out; have := HP.out; omega) HR1.out)
            obtain ⟨hr1, hr2, hr3, hr4, hr5, hr6⟩ := HS1.out.part (p := p) (by clear e1 e2 e8; have := HZ.out; omega) HP.out.1 HP.out.2
            obtain ⟨rr, hrr⟩ : ∃ rr, partition ltInt d1 a b1 p = rr := ⟨_, rfl⟩
            rw [hrr] at CP hr1 hr2 hr3 hr4 hr5 hr6
            clear hrr
            obtain ⟨mid, ap, d4⟩ := rr
            simp only [] at CP hr1 hr2 hr3 hr4 hr5 hr6
            have H1 := Lib.hid hr1
            have H2 := Lib.hid hr2
            have H3 := Lib.hid hr3
            have H4 := Lib.hid hr4
            have H5 := Lib.hid hr5
            have H6 := Lib.hid hr6
            clear hr1 hr2 hr3 hr4 hr5 hr6
            obtain ⟨ll, hll⟩ : ∃ ll, ll + a = mid := ⟨mid - a, by clear e1 e2 e8; have := H1.out; omega⟩
            obtain ⟨rl, hrl⟩ : ∃ rl, rl + mid = b1 := ⟨b1 - mid, by clear e1 e2 e8; have := H1.out; omega⟩
            obtain ⟨m1, hm1⟩ : ∃ m1, mid + 1 = m1 := ⟨_, rfl⟩
            have HV := Lib.hid (show ll + a = mid ∧ rl + mid = b1 ∧ mid + 1 = m1 ∧ a ≤ mid ∧ mid < b1 from ⟨hll, hrl, hm1, H1.out.1, H1.out.2⟩)
            have k1 : IntKind.i64.wrap ((mid : Int) - (a : Int)) = (ll : Int) := wsub hll (by clear e1 e2 e8; have := HZ.out; have := HV.out; omega)
            have k2 : IntKind.i64.wrap ((b1 : Int) - (mid : Int)) = (rl : Int) := wsub hrl (by clear e1 e2 e8; clear k1; have := HZ.out; have := HV.out; omega)
            have k3 : IntKind.i64.wrap ((mid : Int) + 1) = (m1 : Int) := wadd1 hm1 (by clear e1 e2 e8; clear k1 k2; have := HZ.out; have := HV.out; omega)
            rw [hm1] at H4 H5 H6
            clear hll hrl hm1
            by_cases hlr : ll < rl
            · as_aux_lemma =>
                have k0 : (ll : Int) < (rl : Int) := by clear e1 e2 e8; clear k1 k2 k3; omega
                have CR := Lib.hid (fun w1 (g : Wr b w w1) (h : RowB w1 b d4) => HI.out a mid lim d4 w1 (by clear e1 e2 e8; clear k1 k2 k3; have := HZ.out; have := HV.out; omega) H2.out (by clear e1 e2 e8; clear k1 k2 k3; have := HZ.out; have := HV.out; omega) (by clear e1 e2 e8; clear k1 k2 k3; have := HZ.out; have := HV.out; omega) (by clear e1 e2 e8; clear k1 k2 k3; have := HZ.out; omega) H3.out h (HG.out w1 g))
                clear hlr HS1 H1 H2 H3 H4 HP
                go_wp2_with (first
                  | (go_at_call 103; (with_reducible refine CP.out.mono ?_); rintro e w1 ⟨rfl, g, r⟩; have GW := Lib.hid (HW1.out.trans g); have GR := Lib.hid r; clear g r)
                  | (go_at_call 73; (with_reducible refine (CR.out _ GW.out GR.out).mono ?_); rintro e w2 ⟨rfl, g, d5, r, r1, r2⟩; have GW2 := Lib.hid (GW.out.trans g); have GR2 := Lib.hid r; have GS2 := Lib.hid (H5.out d5 r1 r2); clear g r r1 r2))
                go_roundw
                case rel => exact ⟨m1, b1, lim, _, ap, d5, rfl, rfl, rfl, rfl, rfl, Lib.hid (by clear e1 e2 e8; clear k1 k2 k3 k0; have := HZ.out; have := HV.out; omega), GW2, GR2, GS2⟩
                case measure => clear e1 e2 e8; clear k1 k2 k3 k0; have := HZ.out; have := HV.out; simp [intOf]; omega
            · as_aux_lemma =>
                have k0 : ¬ (ll : Int) < (rl : Int) := by clear e1 e2 e8; clear k1 k2 k3; omega
                have CR := Lib.hid (fun w1 (g : Wr b w w1) (h : RowB w1 b d4) => HI.out m1 b1 lim d4 w1 (by clear e1 e2 e8; clear k1 k2 k3; have := HZ.out; have := HV.out; omega) H2.out (by clear e1 e2 e8; clear k1 k2 k3; have := HZ.out; have := HV.out; omega) (by clear e1 e2 e8; clear k1 k2 k3; have := HZ.out; have := HV.out; omega) (by clear e1 e2 e8; clear k1 k2 k3; have := HZ.out; omega) H4.out h (HG.out w1 g))
                clear hlr HS1 H1 H2 H3 H4 HP
                go_wp2_with (first
                  | (go_at_call 103; (with_reducible refine CP.out.mono ?_); rintro e w1 ⟨rfl, g, r⟩; have GW := Lib.hid (HW1.out.trans g); have GR := Lib.hid r; clear g r)
                  | (go_at_call 73; (with_reducible refine (CR.out _ GW.out GR.out).mono ?_); rintro e w2 ⟨rfl, g, d5, r, r1, r2⟩; have GW2 := Lib.hid (GW.out.trans g); have GR2 := Lib.hid r; have GS2 := Lib.hid (H6.out d5 r1 r2); clear g r r1 r2))
                go_roundw
                case rel => exact ⟨a, mid, lim, _, ap, d5, rfl, rfl, rfl, rfl, rfl, Lib.hid (by clear e1 e2 e8; clear k1 k2 k3 k0; have := HZ.out; have := HV.out; omega), GW2, GR2, GS2⟩
                case measure => clear e1 e2 e8; clear k1 k2 k3 k0; have := HZ.out; have := HV.out; simp [intOf]; omega
          · obtain ⟨ap1, hap⟩ : ∃ ap1, ap1 + 1 = a := ⟨a - 1, by clear e1 e2 e8; omega⟩
            have z0 : 0 < a := by clear e1 e2 e8; omega
            have z1 : (ap1 : Int) < (n : Int) := by clear e1 e2 e8; have := HZ.out; omega
            have z2 : (p : Int) < (n : Int) := by clear e1 e2 e8; have := HZ.out; have := HP.out; omega
            have z3 : IntKind.i64.wrap ((a : Int) - 1) = (ap1 : Int) := wsub1 hap (by clear e1 e2 e8; have := HZ.out; omega)
            have HPA := Lib.hid (show a - 1 = ap1 by clear e1 e2 e8; clear z3; omega)
            obtain ⟨ca, -⟩ := HR1.out ap1 (by rw [HS1.out.1]; clear e1 e2 e8; clear z3; have := HZ.out; omega)
            obtain ⟨cp, -⟩ := HR1.out p (by rw [HS1.out.1]; clear e1 e2 e8; clear z3; have := HZ.out; have := HP.out; omega)
            by_cases hl : d1[ap1]! < d1[p]!
            · have C := Lib.hid (fun w1 => show Calls Tryd.prog 93 #[.int .u8 d1[ap1]!, .int .u8 d1[p]!] w1 fun e w' => e = .returned (.bool true) ∧ w' = w1 by have := Less8_any d1[ap1]! d1[p]! w1; rwa [decide_eq_true hl] at this)
              generalize d1[ap1]! = x at C ca cp
              generalize d1[p]! = y at C ca cp
              clear hl hap haz
              go_wp2_with fail
              go_quiet ((go_at_call 93; with_reducible exact Calls.quiet_of_same (C.out _)))
              clear C ca cp z0 z1 z2 z3
              replace HW1 := Lib.hid (HW1.out.drewN nq)
              replace HR1 := Lib.hid (show RowB (wr.drewN nq) b d1 from HR1.out)
              generalize wr.drewN nq = wr at *
              have CP := Lib.hid (part_any b cap n a b1 p d1 wr HS1.out.1 hn (by clear e1 e2 e8; have := HZ.out; omega) (by clear e1 e2 e8; have := HZ.out; omega) (by clear e1 e2 e8; have := HZ.out; have := HP.out; omega) HR1.out)
              obtain ⟨hr1, hr2, hr3, hr4, hr5, hr6⟩ := HS1.out.part (p := p) (by clear e1 e2 e8; have := HZ.out; omega) HP.out.1 HP.out.2
              obtain ⟨rr, hrr⟩ : ∃ rr, partition ltInt d1 a b1 p = rr := ⟨_, rfl⟩
              rw [hrr] at CP hr1 hr2 hr3 hr4 hr5 hr6
              clear hrr
              obtain ⟨mid, ap, d4⟩ := rr
              simp only [] at CP hr1 hr2 hr3 hr4 hr5 hr6
              have H1 := Lib.hid hr1
              have H2 := Lib.hid hr2
              have H3 := Lib.hid hr3
              have H4 := Lib.hid hr4
              have H5 := Lib.hid hr5
              have H6 := Lib.hid hr6
              clear hr1 hr2 hr3 hr4 hr5 hr6
              obtain ⟨ll, hll⟩ : ∃ ll, ll + a = mid := ⟨mid - a, by clear e1 e2 e8; have := H1.out; omega⟩
              obtain ⟨rl, hrl⟩ : ∃ rl, rl + mid = b1 := ⟨b1 - mid, by clear e1 e2 e8; have := H1.out; omega⟩
              obtain ⟨m1, hm1⟩ : ∃ m1, mid + 1 = m1 := ⟨_, rfl⟩
              have HV := Lib.hid (show ll + a = mid ∧ rl + mid = b1 ∧ mid + 1 = m1 ∧ a ≤ mid ∧ mid < b1 from ⟨hll, hrl, hm1, H1.out.1, H1.out.2⟩)
              have k1 : IntKind.i64.wrap ((mid : Int) - (a : Int)) = (ll : Int) := wsub hll (by clear e1 e2 e8; have := HZ.out; have := HV.out; omega)
              have k2 : IntKind.i64.wrap ((b1 : Int) - (mid : Int)) = (rl : Int) := wsub hrl (by clear e1 e2 e8; clear k1; have := HZ.out; have := HV.out; omega)
              have k3 : IntKind.i64.wrap ((mid : Int) + 1) = (m1 : Int) := wadd1 hm1 (by clear e1 e2 e8; clear k1 k2; have := HZ.out; have := HV.out; omega)
              rw [hm1] at H4 H5 H6
              clear hll hrl hm1
              by_cases hlr : ll < rl
              · as_aux_lemma =>
                  have k0 : (ll : Int) < (rl : Int) := by clear e1 e2 e8; clear k1 k2 k3; omega
                  have CR := Lib.hid (fun w1 (g : Wr b w w1) (h : RowB w1 b d4) => HI.out a mid lim d4 w1 (by clear e1 e2 e8; clear k1 k2 k3; have := HZ.out; have := HV.out; omega) H2.out (by clear e1 e2 e8; clear k1 k2 k3; have := HZ.out; have := HV.out; omega) (by clear e1 e2 e8; clear k1 k2 k3; have := HZ.out; have := HV.out; omega) (by clear e1 e2 e8; clear k1 k2 k3; have := HZ.out; omega) H3.out h (HG.out w1 g))
                  clear hlr HS1 H1 H2 H3 H4 HP
                  go_wp2_with (first
                    | (go_at_call 103; (with_reducible refine CP.out.mono ?_); rintro e w1 ⟨rfl, g, r⟩; have GW := Lib.hid (HW1.out.trans g); have GR := Lib.hid r; clear g r)
                    | (go_at_call 73; (with_reducible refine (CR.out _ GW.out GR.out).mono ?_); rintro e w2 ⟨rfl, g, d5, r, r1, r2⟩; have GW2 := Lib.hid (GW.out.trans g); have GR2 := Lib.hid r; have GS2 := Lib.hid (H5.out d5 r1 r2); clear g r r1 r2))
                  go_roundw
                  case rel => exact ⟨m1, b1, lim, _, ap, d5, rfl, rfl, rfl, rfl, rfl, Lib.hid (by clear e1 e2 e8; clear k1 k2 k3 k0; have := HZ.out; have := HV.out; omega), GW2, GR2, GS2⟩
                  case measure => clear e1 e2 e8; clear k1 k2 k3 k0; have := HZ.out; have := HV.out; simp [intOf]; omega
              · as_aux_lemma =>
                  have k0 : ¬ (ll : Int) < (rl : Int) := by clear e1 e2 e8; clear k1 k2 k3; omega
                  have CR := Lib.hid (fun w1 (g : Wr b w w1) (h : RowB w1 b d4) => HI.out m1 b1 lim d4 w1 (by clear e1 e2 e8; clear k1 k2 k3; have := HZ.out; have := HV.out; omega) H2.out (by clear e1 e2 e8; clear k1 k2 k3; have := HZ.out; have := HV.out; omega) (by clear e1 e2 e8; clear k1 k2 k3; have := HZ.out; have := HV.out; omega) (by clear e1 e2 e8; clear k1 k2 k3; have := HZ.out; omega) H4.out h (HG.out w1 g))
                  clear hlr HS1 H1 H2 H3 H4 HP
                  go_wp2_with (first
                    | (go_at_call 103; (with_reducible refine CP.out.mono ?_); rintro e w1 ⟨rfl, g, r⟩; have GW := Lib.hid (HW1.out.trans g); have GR := Lib.hid r; clear g r)
                    | (go_at_call 73; (with_reducible refine (CR.out _ GW.out GR.out).mono ?_); rintro e w2 ⟨rfl, g, d5, r, r1, r2⟩; have GW2 := Lib.hid (GW.out.trans g); have GR2 := Lib.hid r; have GS2 := Lib.hid (H6.out d5 r1 r2); clear g r r1 r2))
                  go_roundw
                  case rel => exact ⟨a, mid, lim, _, ap, d5, rfl, rfl, rfl, rfl, rfl, Lib.hid (by clear e1 e2 e8; clear k1 k2 k3 k0; have := HZ.out; have := HV.out; omega), GW2, GR2, GS2⟩
                  case measure => clear e1 e2 e8; clear k1 k2 k3 k0; have := HZ.out; have := HV.out; simp [intOf]; omega
            · have C := Lib.hid (fun w1 => show Calls Tryd.prog 93 #[.int .u8 d1[ap1]!, .int .u8 d1[p]!] w1 fun e w' => e = .returned (.bool false) ∧ w' = w1 by have := Less8_any d1[ap1]! d1[p]! w1; rwa [decide_eq_false hl] at this)
              obtain ⟨hr1, hr2, hr3⟩ := HS1.out.equal (p := p) (by clear e1 e2 e8; clear z3; have := HZ.out; omega) z0 HP.out.1 HP.out.2 (by rw [HPA.out]; exact hl)
              generalize d1[ap1]! = x at C ca cp
              generalize d1[p]! = y at C ca cp
              clear hl hap haz
              go_wp2_with fail
              go_quiet ((go_at_call 93; with_reducible exact Calls.quiet_of_same (C.out _)))
              clear C ca cp z0 z1 z2 z3
              replace HW1 := Lib.hid (HW1.out.drewN nq)
              replace HR1 := Lib.hid (show RowB (wr.drewN nq) b d1 from HR1.out)
              generalize wr.drewN nq = wr at *
              have CP := Lib.hid (peq_any b cap n a b1 p d1 wr HS1.out.1 hn (by clear e1 e2 e8; have := HZ.out; omega) (by clear e1 e2 e8; have := HZ.out; omega) (by clear e1 e2 e8; have := HZ.out; have := HP.out; omega) HR1.out)
              obtain ⟨rr, hrr⟩ : ∃ rr, partitionEqual ltInt d1 a b1 p = rr := ⟨_, rfl⟩
              rw [hrr] at CP hr1 hr2 hr3
              clear hrr
              obtain ⟨mid, d4⟩ := rr
              simp only [] at CP hr1 hr2 hr3
              have HV := Lib.hid (show a < mid ∧ mid ≤ b1 from ⟨hr1, hr2⟩)
              have GS2 := Lib.hid hr3
              clear hr1 hr2 hr3 HS1 HP
              go_wp2_with (go_at_call 102; (with_reducible refine CP.out.mono ?_); rintro e w1 ⟨rfl, g, r⟩; have GW := Lib.hid (HW1.out.trans g); have GR := Lib.hid r; clear g r)
              go_roundw
              case rel => exact ⟨mid, b1, lim, _, _, d4, rfl, rfl, rfl, rfl, rfl, Lib.hid (by clear e1 e2 e8; have := HZ.out; have := HV.out; omega), GW, GR, GS2⟩
              case measure => clear e1 e2 e8; have := HZ.out; have := HV.out; simp [intOf]; omega
    | false =>
      have CB := Lib.hid (brk_any b cap n a b1 d1 wr HS1.out.1 hn (by clear e1 e2 e8; have := HZ.out; omega) (by clear e1 e2 e8; have := HZ.out; omega) HR1.out (HG.out _ HW1.out))
      have HS2 := Lib.hid (HS1.out.perm (by clear e1 e2 e8; have := HZ.out; omega) (breakPatterns_holds d1 a b1 (by clear e1 e2 e8; have := HZ.out; omega) (by rw [HS1.out.1]; clear e1 e2 e8; have := HZ.out; omega)))
      generalize breakPatterns d1 a b1 = d2 at *
      clear HS1
      go_wp2_with (go_at_call 98; (with_reducible refine CB.out.mono ?_); rintro e w0 ⟨rfl, g, r⟩; have GW := Lib.hid (HW1.out.trans g); have GR := Lib.hid r; clear g r)
      have HR1' := GR
      have HW1' := GW
      clear HR1 HW1 CB GW GR
      have HR1 := HR1'
      have HW1 := HW1'
      have HS1 := HS2
      clear HR1' HW1' HS2
      generalize hw12 : w0 = wr at *
      clear hw12
      generalize hd12 : d2 = d1 at *
      clear hd12
      have CC := Lib.hid (choose_any b cap n a b1 d1 wr HS1.out.1 hn (by clear e1 e2 e8; have := HZ.out; omega) (by clear e1 e2 e8; have := HZ.out; omega) HR1.out (HG.out _ HW1.out))
      have HP := Lib.hid (choosePivot_holds ltInt d1 a b1 (by clear e1 e2 e8; have := HZ.out; omega))
      obtain ⟨cc, hcc⟩ : ∃ cc, choosePivot ltInt d1 a b1 = cc := ⟨_, rfl⟩
      rw [hcc] at CC HP
      clear hcc
      obtain ⟨p, h⟩ := cc
      simp only [] at CC HP
      cases h with
      | increasing =>
        as_aux_lemma =>
        go_wp2_with (go_at_call 99; (with_reducible refine CC.out.mono ?_); rintro e w1 ⟨rfl, g⟩; have GW := Lib.hid (HW1.out.trans (Wr.of_gr g)); have GR := Lib.hid (HR1.out.gr g); clear g)
        have HR1' := GR
        have HW1' := GW
        clear HR1 HW1 CC GW GR
        have HR1 := HR1'
        have HW1 := HW1'
        clear HR1' HW1'
        generalize hw12 : w1 = wr at *
        clear hw12
        by_cases haz : a = 0
        · have z0 : ¬ 0 < a := by clear e1 e2 e8; omega
          have z0' : ¬ (0 : Int) < (a : Int) := by clear e1 e2 e8; omega
          clear haz
          go_wp2_with fail
          go_quiet (fail)
          clear z0 z0'
          replace HW1 := Lib.hid (HW1.out.drewN nq)
          replace HR1 := Lib.hid (show RowB (wr.drewN nq) b d1 from HR1.out)
          generalize wr.drewN nq = wr at *
          have CP := Lib.hid (part_any b cap n a b1 p d1 wr HS1.out.1 hn (by clear e1 e2 e8; have := HZ.out; omega) (by clear e1 e2 e8; have := HZ.out; omega) (by clear e1 e2 e8; have := HZ.out; have := HP.out; omega) HR1.out)
          obtain ⟨hr1, hr2, hr3, hr4, hr5, hr6⟩ := HS1.out.part (p := p) (by clear e1 e2 e8; have := HZ.out; omega) HP.out.1 HP.out.2
          obtain ⟨rr, hrr⟩ : ∃ rr, partition ltInt d1 a b1 p = rr := ⟨_, rfl⟩
          rw [hrr] at CP hr1 hr2 hr3 hr4 hr5 hr6
          clear hrr
          obtain ⟨mid, ap, d4⟩ := rr
          simp only [] at CP hr1 hr2 hr3 hr4 hr5 hr6
          have H1 := Lib.hid hr1
          have H2 := Lib.hid hr2
          have H3 := Lib.hid hr3
          have H4 := Lib.hid hr4
          have H5 := Lib.hid hr5
          have H6 := Lib.hid hr6
          clear hr1 hr2 hr3 hr4 hr5 hr6
          obtain ⟨ll, hll⟩ : ∃ ll, ll + a = mid := ⟨mid - a, by clear e1 e2 e8; have := H1.out; omega⟩
          obtain ⟨rl, hrl⟩ : ∃ rl, rl + mid = b1 := ⟨b1 - mid, by clear e1 e2 e8; have := H1.out; omega⟩
          obtain ⟨m1, hm1⟩ : ∃ m1, mid + 1 = m1 := ⟨_, rfl⟩
          have HV := Lib.hid (show ll + a = mid ∧ rl + mid = b1 ∧ mid + 1 = m1 ∧ a ≤ mid ∧ mid < b1 from ⟨hll, hrl, hm1, H1.out.1, H1.out.2⟩)
          have k1 : IntKind.i64.wrap ((mid : Int) - (a : Int)) = (ll : Int) := wsub hll (by clear e1 e2 e8; have := HZ.out; have := HV.out; omega)
          have k2 : IntKind.i64.wrap ((b1 : Int) - (mid : Int)) = (rl : Int) := wsub hrl (by clear e1 e2 e8; clear k1; have := HZ.out; have := HV.out; omega)
          have k3 : IntKind.i64.wrap ((mid : Int) + 1) = (m1 : Int) := wadd1 hm1 (by clear e1 e2 e8; clear k1 k2; have := HZ.out; have := HV.out; omega)
          rw [hm1] at H4 H5 H6
          clear hll hrl hm1
          by_cases hlr : ll < rl
          · as_aux_lemma =>
              have k0 : (ll : Int) < (rl : Int) := by clear e1 e2 e8; clear k1 k2 k3; omega
              have CR := Lib.hid (fun w1 (g : Wr b w w1) (h : RowB w1 b d4) => HI.out a mid l1 d4 w1 (by clear e1 e2 e8; clear k1 k2 k3; have := HZ.out; have := HV.out; omega) H2.out (by clear e1 e2 e8; clear k1 k2 k3; have := HZ.out; have := HV.out; omega) (by clear e1 e2 e8; clear k1 k2 k3; have := HZ.out; have := HV.out; omega) (by clear e1 e2 e8; clear k1 k2 k3; have := HZ.out; omega) H3.out h (HG.out w1 g))
              clear hlr HS1 H1 H2 H3 H4 HP
              go_wp2_with (first
                | (go_at_call 103; (with_reducible refine CP.out.mono ?_); rintro e w1 ⟨rfl, g, r⟩; have GW := Lib.hid (HW1.out.trans g); have GR := Lib.hid r; clear g r)
                | (go_at_call 73; (with_reducible refine (CR.out _ GW.out GR.out).mono ?_); rintro e w2 ⟨rfl, g, d5, r, r1, r2⟩; have GW2 := Lib.hid (GW.out.trans g); have GR2 := Lib.hid r; have GS2 := Lib.hid (H5.out d5 r1 r2); clear g r r1 r2))
              go_roundw
              case rel => exact ⟨m1, b1, l1, _, ap, d5, rfl, rfl, rfl, rfl, rfl, Lib.hid (by clear e1 e2 e8; clear k1 k2 k3 k0; have := HZ.out; have := HV.out; omega), GW2, GR2, GS2⟩
              case measure => clear e1 e2 e8; clear k1 k2 k3 k0; have := HZ.out; have := HV.out; simp [intOf]; omega
          · as_aux_lemma =>
              have k0 : ¬ (ll : Int) < (rl : Int) := by clear e1 e2 e8; clear k1 k2 k3; omega
              have CR := Lib.hid (fun w1 (g : Wr b w w1) (h : RowB w1 b d4) => HI.out m1 b1 l1 d4 w1 (by clear e1 e2 e8; clear k1 k2 k3; have := HZ.out; have := HV.out; omega) H2.out (by clear e1 e2 e8; clear k1 k2 k3; have := HZ.out; have := HV.out; omega) (by clear e1 e2 e8; clear k1 k2 k3; have := HZ.out; have := HV.out; omega) (by clear e1 e2 e8; clear k1 k2 k3; have := HZ.out; omega) H4.out h (HG.out w1 g))
              clear hlr HS1 H1 H2 H3 H4 HP
              go_wp2_with (first
                | (go_at_call 103; (with_reducible refine CP.out.mono ?_); rintro e w1 ⟨rfl, g, r⟩; have GW := Lib.hid (HW1.out.trans g); have GR := Lib.hid r; clear g r)
                | (go_at_call 73; (with_reducible refine (CR.out _ GW.out GR.out).mono ?_); rintro e w2 ⟨rfl, g, d5, r, r1, r2⟩; have GW2 := Lib.hid (GW.out.trans g); have GR2 := Lib.hid r; have GS2 := Lib.hid (H6.out d5 r1 r2); clear g r r1 r2))
              go_roundw
              case rel => exact ⟨a, mid, l1, _, ap, d5, rfl, rfl, rfl, rfl, rfl, Lib.hid (by clear e1 e2 e8; clear k1 k2 k3 k0; have := HZ.out; have := HV.out; omega), GW2, GR2, GS2⟩
              case measure => clear e1 e2 e8; clear k1 k2 k3 k0; have := HZ.out; have := HV.out; simp [intOf]; omega
        · obtain ⟨ap1, hap⟩ : ∃ ap1, ap1 + 1 = a := ⟨a - 1, by clear e1 e2 e8; omega⟩
          have z0 : 0 < a := by clear e1 e2 e8; omega
          have z1 : (ap1 : Int) < (n : Int) := by clear e1 e2 e8; have := HZ.out; omega
          have z2 : (p : Int) < (n : Int) := by clear e1 e2 e8; have := HZ.out; have := HP.out; omega
          have z3 : IntKind.i64.wrap ((a : Int) - 1) = (ap1 : Int) := wsub1 hap (by clear e1 e2 e8; have := HZ.out; omega)
          have HPA := Lib.hid (show a - 1 = ap1 by clear e1 e2 e8; clear z3; omega)
          obtain ⟨ca, -⟩ := HR1.out ap1 (by rw [HS1.out.1]; clear e1 e2 e8; clear z3; have := HZ.out; omega)
          obtain ⟨cp, -⟩ := HR1.out p (by rw [HS1.out.1]; clear e1 e2 e8; clear z3; have := HZ.out; have := HP.out; omega)
          by_cases hl : d1[ap1]! < d1[p]!
          · have C := Lib.hid (fun w1 => show Calls Tryd.prog 93 #[.int .u8 d1[ap1]!, .int .u8 d1[p]!] w1 fun e w' => e = .returned (.bool true) ∧ w' = w1 by have := Less8_any d1[ap1]! d1[p]! w1; rwa [decide_eq_true hl] at this)
            generalize d1[ap1]! = x at C ca cp
            generalize d1[p]! = y at C ca cp
            clear hl hap haz
            go_wp2_with fail
            go_quiet ((go_at_call 93; with_reducible exact Calls.quiet_of_same (C.out _)))
            clear C ca cp z0 z1 z2 z3
            replace HW1 := Lib.hid (HW1.out.drewN nq)
            replace HR1 := Lib.hid (show RowB (wr.drewN nq) b d1 from HR1.out)
            generalize wr.drewN nq = wr at *
            have CP := Lib.hid (part_any b cap n a b1 p d1 wr HS1.out.1 hn (by clear e1 e2 e8; have := HZ.out; omega) (by clear e1 e2 e8; have := HZ.out; omega) (by clear e1 e2 e8; have := HZ.out; have := HP.out; omega) HR1.out)
            obtain ⟨hr1, hr2, hr3, hr4, hr5, hr6⟩ := HS1.out.part (p := p) (by clear e1 e2 e8; have := HZ.out; omega) HP.out.1 HP.out.2
            obtain ⟨rr, hrr⟩ : ∃ rr, partition ltInt d1 a b1 p = rr := ⟨_, rfl⟩
            rw [hrr] at CP hr1 hr2 hr3 hr4 hr5 hr6
            clear hrr
            obtain ⟨mid, ap, d4⟩ := rr
            simp only [] at CP hr1 hr2 hr3 hr4 hr5 hr6
            have H1 := Lib.hid hr1
            have H2 := Lib.hid hr2
            have H3 := Lib.hid hr3
            have H4 := Lib.hid hr4
            have H5 := Lib.hid hr5
            have H6 := Lib.hid hr6
            clear hr1 hr2 hr3 hr4 hr5 hr6
            obtain ⟨ll, hll⟩ : ∃ ll, ll + a = mid := ⟨mid - a, by clear e1 e2 e8; have := H1.out; omega⟩
            obtain ⟨rl, hrl⟩ : ∃ rl, rl + mid = b1 := ⟨b1 - mid, by clear e1 e2 e8; have := H1.out; omega⟩
            obtain ⟨m1, hm1⟩ : ∃ m1, mid + 1 = m1 := ⟨_, rfl⟩
            have HV := Lib.hid (show ll + a = mid ∧ rl + mid = b1 ∧ mid + 1 = m1 ∧ a ≤ mid ∧ mid < b1 from ⟨hll, hrl, hm1, H1.out.1, H1.out.2⟩)
            have k1 : IntKind.i64.wrap ((mid : Int) - (a : Int)) = (ll : Int) := wsub hll (by clear e1 e2 e8; have := HZ.out; have := HV.out; omega)
            have k2 : IntKind.i64.wrap ((b1 : Int) - (mid : Int)) = (rl : Int) := wsub hrl (by clear e1 e2 e8; clear k1; have := HZ.out; have := HV.out; omega)
            have k3 : IntKind.i64.wrap ((mid : Int) + 1) = (m1 : Int) := wadd1 hm1 (by clear e1 e2 e8; clear k1 k2; have := HZ.out; have := HV.out; omega)
            rw [hm1] at H4 H5 H6
            clear hll hrl hm1
            by_cases hlr : ll < rl
            · as_aux_lemma =>
                have k0 : (ll : Int) < (rl : Int) := by clear e1 e2 e8; clear k1 k2 k3; omega
                have CR := Lib.hid (fun w1 (g : Wr b w w1) (h : RowB w1 b d4) => HI.out a mid l1 d4 w1 (by clear e1 e2 e8; clear k1 k2 k3; have := HZ.out; have := HV.out; omega) H2.out (by clear e1 e2 e8; clear k1 k2 k3; have := HZ.out; have := HV.out; omega) (by clear e1 e2 e8; clear k1 k2 k3; have := HZ.out; have := HV.out; omega) (by clear e1 e2 e8; clear k1 k2 k3; have := HZ.out; omega) H3.out h (HG.out w1 g))
                clear hlr HS1 H1 H2 H3 H4 HP
                go_wp2_with (first
                  | (go_at_call 103; (with_reducible refine CP.out.mono ?_); rintro e w1 ⟨rfl, g, r⟩; have GW := Lib.hid (HW1.out.trans g); have GR := Lib.hid r; clear g r)
                  | (go_at_call 73; (with_reducible refine (CR.out _ GW.out GR.out).mono ?_); rintro e w2 ⟨rfl, g, d5, r, r1, r2⟩; have GW2 := Lib.hid (GW.out.trans g); have GR2 := Lib.hid r; have GS2 := Lib.hid (H5.out d5 r1 r2); clear g r r1 r2))
                go_roundw
                case rel => exact ⟨m1, b1, l1, _, ap, d5, rfl, rfl, rfl, rfl, rfl, Lib.hid (by clear e1 e2 e8; clear k1 k2 k3 k0; have := HZ.out; have := HV.out; omega), GW2, GR2, GS2⟩
                case measure => clear e1 e2 e8; clear k1 k2 k3 k0; have := HZ.out; have := HV.out; simp [intOf]; omega
            · as_aux_lemma =>
                have k0 : ¬ (ll : Int) < (rl : Int) := by clear e1 e2 e8; clear k1 k2 k3; omega
                have CR := Lib.hid (fun w1 (g : Wr b w w1) (h : RowB w1 b d4) => HI.out m1 b1 l1 d4 w1 (by clear e1 e2 e8; clear k1 k2 k3; have := HZ.out; have := HV.out; omega) H2.out (by clear e1 e2 e8; clear k1 k2 k3; have := HZ.out; have := HV.out; omega) (by clear e1 e2 e8; clear k1 k2 k3; have := HZ.out; have := HV.out; omega) (by clear e1 e2 e8; clear k1 k2 k3; have := HZ.out; omega) H4.out h (HG.out w1 g))
                clear hlr HS1 H1 H2 H3 H4 HP
                go_wp2_with (first
                  | (go_at_call 103; (with_reducible refine CP.out.mono ?_); rintro e w1 ⟨rfl, g, r⟩; have GW := Lib.hid (HW1.out.trans g); have GR := Lib.hid r; clear g r)
                  | (go_at_call 73; (with_reducible refine (CR.out _ GW.out GR.out).mono ?_); rintro e w2 ⟨rfl, g, d5, r, r1, r2⟩; have GW2 := Lib.hid (GW.out.trans g); have GR2 := Lib.hid r; have GS2 := Lib.hid (H6.out d5 r1 r2); clear g r r1 r2))
                go_roundw
                case rel => exact ⟨a, mid, l1, _, ap, d5, rfl, rfl, rfl, rfl, rfl, Lib.hid (by clear e1 e2 e8; clear k1 k2 k3 k0; have := HZ.out; have := HV.out; omega), GW2, GR2, GS2⟩
                case measure => clear e1 e2 e8; clear k1 k2 k3 k0; have := HZ.out; have := HV.out; simp [intOf]; omega
          · have C := Lib.hid (fun w1 => show Calls Tryd.prog 93 #[.int .u8 d1[ap1]!, .int .u8 d1[p]!] w1 fun e w' => e = .returned (.bool false) ∧ w' = w1 by have := Less8_any d1[ap1]! d1[p]! w1; rwa [decide_eq_false hl] at this)
            obtain ⟨hr1, hr2, hr3⟩ := HS1.out.equal (p := p) (by clear e1 e2 e8; clear z3; have := HZ.out; omega) z0 HP.out.1 HP.out.2 (by rw [HPA.out]; exact hl)
            generalize d1[ap1]! = x at C ca cp
            generalize d1[p]! = y at C ca cp
            clear hl hap haz
            go_wp2_with fail
            go_quiet ((go_at_call 93; with_reducible exact Calls.quiet_of_same (C.out _)))
            clear C ca cp z0 z1 z2 z3
            replace HW1 := Lib.hid (HW1.out.drewN nq)
            replace HR1 := Lib.hid (show RowB (wr.drewN nq) b d1 from HR1.out)
            generalize wr.drewN nq = wr at *
            have CP := Lib.hid (peq_any b cap n a b1 p d1 wr HS1.out.1 hn (by clear e1 e2 e8; have := HZ.out; omega) (by clear e1 e2 e8; have := HZ.out; omega) (by clear e1 e2 e8; have := HZ.out; have := HP.out; omega) HR1.out)
            obtain ⟨rr, hrr⟩ : ∃ rr, partitionEqual ltInt d1 a b1 p = rr := ⟨_, rfl⟩
            rw [hrr] at CP hr1 hr2 hr3
            clear hrr
            obtain ⟨mid, d4⟩ := rr
            simp only [] at CP hr1 hr2 hr3
            have HV := Lib.hid (show a < mid ∧ mid ≤ b1 from ⟨hr1, hr2⟩)
            have GS2 := Lib.hid hr3
            clear hr1 hr2 hr3 HS1 HP
            go_wp2_with (go_at_call 102; (with_reducible refine CP.out.mono ?_); rintro e w1 ⟨rfl, g, r⟩; have GW := Lib.hid (HW1.out.trans g); have GR := Lib.hid r; clear g r)
            go_roundw
            case rel => exact ⟨mid, b1, l1, _, _, d4, rfl, rfl, rfl, rfl, rfl, Lib.hid (by clear e1 e2 e8; have := HZ.out; have := HV.out; omega), GW, GR, GS2⟩
            case measure => clear e1 e2 e8; have := HZ.out; have := HV.out; simp [intOf]; omega
      | decreasing =>
        as_aux_lemma =>
        go_wp2_with (go_at_call 99; (with_reducible refine CC.out.mono ?_); rintro e w1 ⟨rfl, g⟩; have GW := Lib.hid (HW1.out.trans (Wr.of_gr g)); have GR := Lib.hid (HR1.out.gr g); clear g)
        have HR1' := GR
        have HW1' := GW
        clear HR1 HW1 CC GW GR
        have HR1 := HR1'
        have HW1 := HW1'
        clear HR1' HW1'
        generalize hw12 : w1 = wr at *
        clear hw12
        have CV := Lib.hid (rev_any b cap n a b1 d1 wr HS1.out.1 hn (by clear e1 e2 e8; have := HZ.out; omega) (by clear e1 e2 e8; have := HZ.out; omega) HR1.out)
        have HS2 := Lib.hid (HS1.out.perm (by clear e1 e2 e8; have := HZ.out; omega) (reverseRange_holds d1 a b1 (by clear e1 e2 e8; have := HZ.out; omega) (by rw [HS1.out.1]; clear e1 e2 e8; have := HZ.out; omega)))
        generalize reverseRange d1 a b1 = d2 at *
        clear HS1
        obtain ⟨p2, hp2⟩ : ∃ p2, p2 + p = b1 - 1 + a := ⟨b1 - 1 + a - p, by clear e1 e2 e8; have := HP.out; have := HZ.out; omega⟩
        obtain ⟨pa, hpa⟩ : ∃ pa, pa + a = p := ⟨p - a, by clear e1 e2 e8; have := HP.out; omega⟩
        obtain ⟨bm, hbm⟩ : ∃ bm, bm + 1 = b1 := ⟨b1 - 1, by clear e1 e2 e8; have := HZ.out; omega⟩
        have HP2 := Lib.hid (show a ≤ p2 ∧ p2 < b1 by clear e1 e2 e8; have := HP.out; have := HZ.out; omega)
        have j1 : IntKind.i64.wrap ((b1 : Int) - 1) = (bm : Int) := wsub1 hbm (by clear e1 e2 e8; have := HZ.out; omega)
        have j2 : IntKind.i64.wrap ((p : Int) - (a : Int)) = (pa : Int) := wsub hpa (by clear e1 e2 e8; clear j1; have := HP.out; have := HZ.out; omega)
        have j3 : IntKind.i64.wrap ((bm : Int) - (pa : Int)) = (p2 : Int) := wsub (by clear e1 e2 e8; clear j1 j2; have := HP.out; have := HZ.out; omega) (by clear e1 e2 e8; clear j1 j2; have := HZ.out; omega)
        clear hp2 hpa hbm HP
        go_wp2_with (go_at_call 100; (with_reducible refine CV.out.mono ?_); rintro e w2 ⟨rfl, g, r⟩; have GW := Lib.hid (HW1.out.trans g); have GR := Lib.hid r; clear g r)
        have HP := HP2
        have HR1' := GR
        have HW1' := GW
        clear HR1 HW1 CV GW GR HP2 j1 j2 j3
        have HR1 := HR1'
        have HW1 := HW1'
        have HS1 := HS2
        clear HR1' HW1' HS2
        generalize hw12 : w2 = wr at *
        clear hw12
        generalize hd12 : d2 = d1 at *
        clear hd12
        generalize hp12 : p2 = p at *
        clear hp12
        by_cases haz : a = 0
        · have z0 : ¬ 0 < a := by clear e1 e2 e8; omega
          have z0' : ¬ (0 : Int) < (a : Int) := by clear e1 e2 e8; omega
          clear haz
          go_wp2_with fail
          go_quiet (fail)
          clear z0 z0'
          replace HW1 := Lib.hid (HW1.out.drewN nq)
          replace HR1 := Lib.hid (show RowB (wr.drewN nq) b d1 from HR1.out)
          generalize wr.drewN nq = wr at *
          have CP := Lib.hid (part_any b cap n a b1 p d1 wr HS1.out.1 hn (by clear e1 e2 e8; have := HZ.out; omega) (by clear e1 e2 e8; have := HZ.out; omega) (by clear e1 e2 e8; have := HZ.out; have := HP.out; omega) HR1.out)
          obtain ⟨hr1, hr2, hr3, hr4, hr5, hr6⟩ := HS1.out.part (p := p) (by clear e1 e2 e8; have := HZ.out; omega) HP.out.1 HP.out.2
          obtain ⟨rr, hrr⟩ : ∃ rr, partition ltInt d1 a b1 p = rr := ⟨_, rfl⟩
          rw [hrr] at CP hr1 hr2 hr3 hr4 hr5 hr6
          clear hrr
          obtain ⟨mid, ap, d4⟩ := rr
          simp only [] at CP hr1 hr2 hr3 hr4 hr5 hr6
          have H1 := Lib.hid hr1
          have H2 := Lib.hid hr2
          have H3 := Lib.hid hr3
          have H4 := Lib.hid hr4
          have H5 := Lib.hid hr5
          have H6 := Lib.hid hr6
          clear hr1 hr2 hr3 hr4 hr5 hr6
          obtain ⟨ll, hll⟩ : ∃ ll, ll + a = mid := ⟨mid - a, by clear e1 e2 e8; have := H1.out; omega⟩
          obtain ⟨rl, hrl⟩ : ∃ rl, rl + mid = b1 := ⟨b1 - mid, by clear e1 e2 e8; have := H1.out; omega⟩
          obtain ⟨m1, hm1⟩ : ∃ m1, mid + 1 = m1 := ⟨_, rfl⟩
          have HV := Lib.hid (show ll + a = mid ∧ rl + mid = b1 ∧ mid + 1 = m1 ∧ a ≤ mid ∧ mid < b1 from ⟨hll, hrl, hm1, H1.out.1, H1.out.2⟩)
          have k1 : IntKind.i64.wrap ((mid : Int) - (a : Int)) = (ll : Int) := wsub hll (by clear e1 e2 e8; have := HZ.out; have := HV.out; omega)
          have k2 : IntKind.i64.wrap ((b1 : Int) - (mid : Int)) = (rl : Int) := wsub hrl (by clear e1 e2 e8; clear k1; have := HZ.out; have := HV.out; omega)
          have k3 : IntKind.i64.wrap ((mid : Int) + 1) = (m1 : Int) := wadd1 hm1 (by clear e1 e2 e8; clear k1 k2; have := HZ.out; have := HV.out; omega)
          rw [hm1] at H4 H5 H6
          clear hll hrl hm1
          by_cases hlr : ll < rl
          · as_aux_lemma =>
              have k0 : (ll : Int) < (rl : Int) := by clear e1 e2 e8; clear k1 k2 k3; omega
              have CR := Lib.hid (fun w1 (g : Wr b w w1) (h : RowB w1 b d4) => HI.out a mid l1 d4 w1 (by clear e1 e2 e8; clear k1 k2 k3; have := HZ.out; have := HV.out; omega) H2.out (by clear e1 e2 e8; clear k1 k2 k3; have := HZ.out; have := HV.out; omega) (by clear e1 e2 e8; clear k1 k2 k3; have := HZ.out; have := HV.out; omega) (by clear e1 e2 e8; clear k1 k2 k3; have := HZ.out; omega) H3.out h (HG.out w1 g))
              clear hlr HS1 H1 H2 H3 H4 HP
              go_wp2_with (first
                | (go_at_call 103; (with_reducible refine CP.out.mono ?_); rintro e w1 ⟨rfl, g, r⟩; have GW := Lib.hid (HW1.out.trans g); have GR := Lib.hid r; clear g r)
                | (go_at_call 73; (with_reducible refine (CR.out _ GW.out GR.out).mono ?_); rintro e w2 ⟨rfl, g, d5, r, r1, r2⟩; have GW2 := Lib.hid (GW.out.trans g); have GR2 := Lib.hid r; have GS2 := Lib.hid (H5.out d5 r1 r2); clear g r r1 r2))
              go_roundw
              case rel => exact ⟨m1, b1, l1, _, ap, d5, rfl, rfl, rfl, rfl, rfl, Lib.hid (by clear e1 e2 e8; clear k1 k2 k3 k0; have := HZ.out; have := HV.out; omega), GW2, GR2, GS2⟩
              case measure => clear e1 e2 e8; clear k1 k2 k3 k0; have := HZ.out; have := HV.out; simp [intOf]; omega
          · as_aux_lemma =>
              have k0 : ¬ (ll : Int) < (rl : Int) := by clear e1 e2 e8; clear k1 k2 k3; omega
              have CR := Lib.hid (fun w1 (g : Wr b w w1) (h : RowB w1 b d4) => HI.out m1 b1 l1 d4 w1 (by clear e1 e2 e8; clear k1 k2 k3; have := HZ.out; have := HV.out; omega) H2.out (by clear e1 e2 e8; clear k1 k2 k3; have := HZ.out; have := HV.out; omega) (by clear e1 e2 e8; clear k1 k2 k3; have := HZ.out; have := HV.out; omega) (by clear e1 e2 e8; clear k1 k2 k3; have := HZ.out; omega) H4.out h (HG.out w1 g))
              clear hlr HS1 H1 H2 H3 H4 HP
              go_wp2_with (first
                | (go_at_call 103; (with_reducible refine CP.out.mono ?_); rintro e w1 ⟨rfl, g, r⟩; have GW := Lib.hid (HW1.out.trans g); have GR := Lib.hid r; clear g r)
                | (go_at_call 73; (with_reducible refine (CR.out _ GW.out GR.out).mono ?_); rintro e w2 ⟨rfl, g, d5, r, r1, r2⟩; have GW2 := Lib.hid (GW.out.trans g); have GR2 := Lib.hid r; have GS2 := Lib.hid (H6.out d5 r1 r2); clear g r r1 r2))
              go_roundw
              case rel => exact ⟨a, mid, l1, _, ap, d5, rfl, rfl, rfl, rfl, rfl, Lib.hid (by clear e1 e2 e8; clear k1 k2 k3 k0; have := HZ.out; have := HV.out; omega), GW2, GR2, GS2⟩
              case measure => clear e1 e2 e8; clear k1 k2 k3 k0; have := HZ.out; have := HV.out; simp [intOf]; omega
        · obtain ⟨ap1, hap⟩ : ∃ ap1, ap1 + 1 = a := ⟨a - 1, by clear e1 e2 e8; omega⟩
          have z0 : 0 < a := by clear e1 e2 e8; omega
          have z1 : (ap1 : Int) < (n : Int) := by clear e1 e2 e8; have := HZ.out; omega
          have z2 : (p : Int) < (n : Int) := by clear e1 e2 e8; have := HZ.out; have := HP.out; omega
          have z3 : IntKind.i64.wrap ((a : Int) - 1) = (ap1 : Int) := wsub1 hap (by clear e1 e2 e8; have := HZ.out; omega)
          have HPA := Lib.hid (show a - 1 = ap1 by clear e1 e2 e8; clear z3; omega)
          obtain ⟨ca, -⟩ := HR1.out ap1 (by rw [HS1.out.1]; clear e1 e2 e8; clear z3; have := HZ.out; omega)
          obtain ⟨cp, -⟩ := HR1.out p (by rw [HS1.out.1]; clear e1 e2 e8; clear z3; have := HZ.out; have := HP.out; omega)
          by_cases hl : d1[ap1]! < d1[p]!
          · have C := Lib.hid (fun w1 => show Calls Tryd.prog 93 #[.int .u8 d1[ap1]!, .int .u8 d1[p]!] w1 fun e w' => e = .returned (.bool true) ∧ w' = w1 by have := Less8_any d1[ap1]! d1[p]! w1; rwa [decide_eq_true hl] at this)
            generalize d1[ap1]! = x at C ca cp
            generalize d1[p]! = y at C ca cp
            clear hl hap haz
            go_wp2_with fail
            go_quiet ((go_at_call 93; with_reducible exact Calls.quiet_of_same (C.out _)))
            clear C ca cp z0 z1 z2 z3
            replace HW1 := Lib.hid (HW1.out.drewN nq)
            replace HR1 := Lib.hid (show RowB (wr.drewN nq) b d1 from HR1.out)
            generalize wr.drewN nq = wr at *
            have CP := Lib.hid (part_any b cap n a b1 p d1 wr HS1.out.1 hn (by clear e1 e2 e8; have := HZ.out; omega) (by clear e1 e2 e8; have := HZ.out; omega) (by clear e1 e2 e8; have := HZ.out; have := HP.out; omega) HR1.out)
            obtain ⟨hr1, hr2, hr3, hr4, hr5, hr6⟩ := HS1.out.part (p := p) (by clear e1 e2 e8; have := HZ.out; omega) HP.out.1 HP.out.2
            obtain ⟨rr, hrr⟩ : ∃ rr, partition ltInt d1 a b1 p = rr := ⟨_, rfl⟩
            rw [hrr] at CP hr1 hr2 hr3 hr4 hr5 hr6
            clear hrr
            obtain ⟨mid, ap, d4⟩ := rr
            simp only [] at CP hr1 hr2 hr3 hr4 hr5 hr6
            have H1 := Lib.hid hr1
            have H2 := Lib.hid hr2
            have H3 := Lib.hid hr3
            have H4 := Lib.hid hr4
            have H5 := Lib.hid hr5
            have H6 := Lib.hid hr6
            clear hr1 hr2 hr3 hr4 hr5 hr6
            obtain ⟨ll, hll⟩ : ∃ ll, ll + a = mid := ⟨mid - a, by clear e1 e2 e8; have := H1.out; omega⟩
            obtain ⟨rl, hrl⟩ : ∃ rl, rl + mid = b1 := ⟨b1 - mid, by clear e1 e2 e8; have := H1.out; omega⟩
            obtain ⟨m1, hm1⟩ : ∃ m1, mid + 1 = m1 := ⟨_, rfl⟩
            have HV := Lib.hid (show ll + a = mid ∧ rl + mid = b1 ∧ mid + 1 = m1 ∧ a ≤ mid ∧ mid < b1 from ⟨hll, hrl, hm1, H1.out.1, H1.out.2⟩)
            have k1 : IntKind.i64.wrap ((mid : Int) - (a : Int)) = (ll : Int) := wsub hll (by clear e1 e2 e8; have := HZ.out; have := HV.out; omega)
            have k2 : IntKind.i64.wrap ((b1 : Int) - (mid : Int)) = (rl : Int) := wsub hrl (by clear e1 e2 e8; clear k1; have := HZ.out; have := HV.out; omega)
            have k3 : IntKind.i64.wrap ((mid : Int) + 1) = (m1 : Int) := wadd1 hm1 (by clear e1 e2 e8; clear k1 k2; have := HZ.out; have := HV.out; omega)
            rw [hm1] at H4 H5 H6
            clear hll hrl hm1
            by_cases hlr : ll < rl
            · as_aux_lemma =>
                have k0 : (ll : Int) < (rl : Int) := by clear e1 e2 e8; clear k1 k2 k3; omega
                have CR := Lib.hid (fun w1 (g : Wr b w w1) (h : RowB w1 b d4) => HI.out a mid l1 d4 w1 (by clear e1 e2 e8; clear k1 k2 k3; have := HZ.out; have := HV.out; omega) H2.out (by clear e1 e2 e8; clear k1 k2 k3; have := HZ.out; have := HV.out; omega) (by clear e1 e2 e8; clear k1 k2 k3; have := HZ.out; have := HV.out; omega) (by clear e1 e2 e8; clear k1 k2 k3; have := HZ.out; omega) H3.out h (HG.out w1 g))
                clear hlr HS1 H1 H2 H3 H4 HP
                go_wp2_with (first
                  | (go_at_call 103; (with_reducible refine CP.out.mono ?_); rintro e w1 ⟨rfl, g, r⟩; have GW := Lib.hid (HW1.out.trans g); have GR := Lib.hid r; clear g r)
                  | (go_at_call 73; (with_reducible refine (CR.out _ GW.out GR.out).mono ?_); rintro e w2 ⟨rfl, g, d5, r, r1, r2⟩; have GW2 := Lib.hid (GW.out.trans g); have GR2 := Lib.hid r; have GS2 := Lib.hid (H5.out d5 r1 r2); clear g r r1 r2))
                go_roundw
                case rel => exact ⟨m1, b1, l1, _, ap, d5, rfl, rfl, rfl, rfl, rfl, Lib.hid (by clear e1 e2 e8; clear k1 k2 k3 k0; have := HZ.out; have := HV.out; omega), GW2, GR2, GS2⟩
                case measure => clear e1 e2 e8; clear k1 k2 k3 k0; have := HZ.out; have := HV.out; simp [intOf]; omega
            · as_aux_lemma =>
                have k0 : ¬ (ll : Int) < (rl : Int) := by clear e1 e2 e8; clear k1 k2 k3; omega
                have CR := Lib.hid (fun w1 (g : Wr b w w1) (h : RowB w1 b d4) => HI.out m1 b1 l1 d4 w1 (by clear e1 e2 e8; clear k1 k2 k3; have := HZ.out; have := HV.out; omega) H2.out (by clear e1 e2 e8; clear k1 k2 k3; have := HZ.out; have := HV.out; omega) (by clear e1 e2 e8; clear k1 k2 k3; have := HZ.out; have := HV.out; omega) (by clear e1 e2 e8; clear k1 k2 k3; have := HZ.out; omega) H4.out h (HG.out w1 g))
                clear hlr HS1 H1 H2 H3 H4 HP
                go_wp2_with (first
                  | (go_at_call 103; (with_reducible refine CP.out.mono ?_); rintro e w1 ⟨rfl, g, r⟩; have GW := Lib.hid (HW1.out.trans g); have GR := Lib.hid r; clear g r)
                  | (go_at_call 73; (with_reducible refine (CR.out _ GW.out GR.out).mono ?_); rintro e w2 ⟨rfl, g, d5, r, r1, r2⟩; have GW2 := Lib.hid (GW.out.trans g); have GR2 := Lib.hid r; have GS2 := Lib.hid (H6.out d5 r1 r2); clear g r r1 r2))
                go_roundw
                case rel => exact ⟨a, mid, l1, _, ap, d5, rfl, rfl, rfl, rfl, rfl, Lib.hid (by clear e1 e2 e8; clear k1 k2 k3 k0; have := HZ.out; have := HV.out; omega), GW2, GR2, GS2⟩
                case measure => clear e1 e2 e8; clear k1 k2 k3 k0; have := HZ.out; have := HV.out; simp [intOf]; omega
          · have C := Lib.hid (fun w1 => show Calls Tryd.prog 93 #[.int .u8 d1[ap1]!, .int .u8 d1[p]!] w1 fun e w' => e = .returned (.bool false) ∧ w' = w1 by have := Less8_any d1[ap1]! d1[p]! w1; rwa [decide_eq_false hl] at this)
            obtain ⟨hr1, hr2, hr3⟩ := HS1.out.equal (p := p) (by clear e1 e2 e8; clear z3; have := HZ.out; omega) z0 HP.out.1 HP.out.2 (by rw [HPA.out]; exact hl)
            generalize d1[ap1]! = x at C ca cp
            generalize d1[p]! = y at C ca cp
            clear hl hap haz
            go_wp2_with fail
            go_quiet ((go_at_call 93; with_reducible exact Calls.quiet_of_same (C.out _)))
            clear C ca cp z0 z1 z2 z3
            replace HW1 := Lib.hid (HW1.out.drewN nq)
            replace HR1 := Lib.hid (show RowB (wr.drewN nq) b d1 from HR1.out)
            generalize wr.drewN nq = wr at *
            have CP := Lib.hid (peq_any b cap n a b1 p d1 wr HS1.out.1 hn (by clear e1 e2 e8; have := HZ.out; omega) (by clear e1 e2 e8; have := HZ.out; omega) (by clear e1 e2 e8; have := HZ.out; have := HP.out; omega) HR1.out)
            obtain ⟨rr, hrr⟩ : ∃ rr, partitionEqual ltInt d1 a b1 p = rr := ⟨_, rfl⟩
            rw [hrr] at CP hr1 hr2 hr3
            clear hrr
            obtain ⟨mid, d4⟩ := rr
            simp only [] at CP hr1 hr2 hr3
            have HV := Lib.hid (show a < mid ∧ mid ≤ b1 from ⟨hr1, hr2⟩)
            have GS2 := Lib.hid hr3
            clear hr1 hr2 hr3 HS1 HP
            go_wp2_with (go_at_call 102; (with_reducible refine CP.out.mono ?_); rintro e w1 ⟨rfl, g, r⟩; have GW := Lib.hid (HW1.out.trans g); have GR := Lib.hid r; clear g r)
            go_roundw
            case rel => exact ⟨mid, b1, l1, _, _, d4, rfl, rfl, rfl, rfl, rfl, Lib.hid (by clear e1 e2 e8; have := HZ.out; have := HV.out; omega), GW, GR, GS2⟩
            case measure => clear e1 e2 e8; have := HZ.out; have := HV.out; simp [intOf]; omega
      | unknown =>
        as_aux_lemma =>
        go_wp2_with (go_at_call 99; (with_reducible refine CC.out.mono ?_); rintro e w1 ⟨rfl, g⟩; have GW := Lib.hid (HW1.out.trans (Wr.of_gr g)); have GR := Lib.hid (HR1.out.gr g); clear g)
        have HR1' := GR
        have HW1' := GW
        clear HR1 HW1 CC GW GR
        have HR1 := HR1'
        have HW1 := HW1'
        clear HR1' HW1'
        generalize hw12 : w1 = wr at *
        clear hw12
        by_cases haz : a = 0
        · have z0 : ¬ 0 < a := by clear e1 e2 e8; omega
          have z0' : ¬ (0 : Int) < (a : Int) := by clear e1 e2 e8; omega
          clear haz
          go_wp2_with fail
          go_quiet (fail)
          clear z0 z0'
          replace HW1 := Lib.hid (HW1.out.drewN nq)
          replace HR1 := Lib.hid (show RowB (wr.drewN nq) b d1 from HR1.out)
          generalize wr.drewN nq = wr at *
          have CP := Lib.hid (part_any b cap n a b1 p d1 wr HS1.out.1 hn (by clear e1 e2 e8; have := HZ.out; omega) (by clear e1 e2 e8; have := HZ.out; omega) (by clear e1 e2 e8; have := HZ.out; have := HP.out; omega) HR1.out)
          obtain ⟨hr1, hr2, hr3, hr4, hr5, hr6⟩ := HS1.out.part (p := p) (by clear e1 e2 e8; have := HZ.out; omega) HP.out.1 HP.out.2
          obtain ⟨rr, hrr⟩ : ∃ rr, partition ltInt d1 a b1 p = rr := ⟨_, rfl⟩
          rw [hrr] at CP hr1 hr2 hr3 hr4 hr5 hr6
          clear hrr
          obtain ⟨mid, ap, d4⟩ := rr
          simp only [] at CP hr1 hr2 hr3 hr4 hr5 hr6
          have H1 := Lib.hid hr1
          have H2 := Lib.hid hr2
          have H3 := Lib.hid hr3
          have H4 := Lib.hid hr4
          have H5 := Lib.hid hr5
          have H6 := Lib.hid hr6
          clear hr1 hr2 hr3 hr4 hr5 hr6
          obtain ⟨ll, hll⟩ : ∃ ll, ll + a = mid := ⟨mid - a, by clear e1 e2 e8; have := H1.out; omega⟩
          obtain ⟨rl, hrl⟩ : ∃ rl, rl + mid = b1 := ⟨b1 - mid, by clear e1 e2 e8; have := H1.out; omega⟩
          obtain ⟨m1, hm1⟩ : ∃ m1, mid + 1 = m1 := ⟨_, rfl⟩
          have HV := Lib.hid (show ll + a = mid ∧ rl + mid = b1 ∧ mid + 1 = m1 ∧ a ≤ mid ∧ mid < b1 from ⟨hll, hrl, hm1, H1.out.1, H1.out.2⟩)
          have k1 : IntKind.i64.wrap ((mid : Int) - (a : Int)) = (ll : Int) := wsub hll (by clear e1 e2 e8; have := HZ.out; have := HV.out; omega)
          have k2 : IntKind.i64.wrap ((b1 : Int) - (mid : Int)) = (rl : Int) := wsub hrl (by clear e1 e2 e8; clear k1; have := HZ.out; have := HV.out; omega)
          have k3 : IntKind.i64.wrap ((mid : Int) + 1) = (m1 : Int) := wadd1 hm1 (by clear e1 e2 e8; clear k1 k2; have := HZ.out; have := HV.out; omega)
          rw [hm1] at H4 H5 H6
          clear hll hrl hm1
          by_cases hlr : ll < rl
          · as_aux_lemma =>
              have k0 : (ll : Int) < (rl : Int) := by clear e1 e2 e8; clear k1 k2 k3; omega
              have CR := Lib.hid (fun w1 (g : Wr b w w1) (h : RowB w1 b d4) => HI.out a mid l1 d4 w1 (by clear e1 e2 e8; clear k1 k2 k3; have := HZ.out; have := HV.out; omega) H2.out (by clear e1 e2 e8; clear k1 k2 k3; have := HZ.out; have := HV.out; omega) (by clear e1 e2 e8; clear k1 k2 k3; have := HZ.out; have := HV.out; omega) (by clear e1 e2 e8; clear k1 k2 k3; have := HZ.out; omega) H3.out h (HG.out w1 g))
              clear hlr HS1 H1 H2 H3 H4 HP
              go_wp2_with (first
                | (go_at_call 103; (with_reducible refine CP.out.mono ?_); rintro e w1 ⟨rfl, g, r⟩; have GW := Lib.hid (HW1.out.trans g); have GR := Lib.hid r; clear g r)
                | (go_at_call 73; (with_reducible refine (CR.out _ GW.out GR.out).mono ?_); rintro e w2 ⟨rfl, g, d5, r, r1, r2⟩; have GW2 := Lib.hid (GW.out.trans g); have GR2 := Lib.hid r; have GS2 := Lib.hid (H5.out d5 r1 r2); clear g r r1 r2))
              go_roundw
              case rel => exact ⟨m1, b1, l1, _, ap, d5, rfl, rfl, rfl, rfl, rfl, Lib.hid (by clear e1 e2 e8; clear k1 k2 k3 k0; have := HZ.out; have := HV.out; omega), GW2, GR2, GS2⟩
              case measure => clear e1 e2 e8; clear k1 k2 k3 k0; have := HZ.out; have := HV.out; simp [intOf]; omega
          · as_aux_lemma =>
              have k0 : ¬ (ll : Int) < (rl : Int) := by clear e1 e2 e8; clear k1 k2 k3; omega
              have CR := Lib.hid (fun w1 (g : Wr b w w1) (h : RowB w1 b d4) => HI.out m1 b1 l1 d4 w1 (by clear e1 e2 e8; clear k1 k2 k3; have := HZ.out; have := HV.out; omega) H2.out (by clear e1 e2 e8; clear k1 k2 k3; have := HZ.out; have := HV.out; omega) (by clear e1 e2 e8; clear k1 k2 k3; have := HZ.out; have := HV.out; omega) (by clear e1 e2 e8; clear k1 k2 k3; have := HZ.out; omega) H4.out h (HG.out w1 g))
              clear hlr HS1 H1 H2 H3 H4 HP
              go_wp2_with (first
                | (go_at_call 103; (with_reducible refine CP.out.mono ?_); rintro e w1 ⟨rfl, g, r⟩; have GW := Lib.hid (HW1.out.trans g); have GR := Lib.hid r; clear g r)
                | (go_at_call 73; (with_reducible refine (CR.out _ GW.out GR.out).mono ?_); rintro e w2 ⟨rfl, g, d5, r, r1, r2⟩; have GW2 := Lib.hid (GW.out.trans g); have GR2 := Lib.hid r; have GS2 := Lib.hid (H6.out d5 r1 r2); clear g r r1 r2))
              go_roundw
              case rel => exact ⟨a, mid, l1, _, ap, d5, rfl, rfl, rfl, rfl, rfl, Lib.hid (by clear e1 e2 e8; clear k1 k2 k3 k0; have := HZ.out; have := HV.out; omega), GW2, GR2, GS2⟩
              case measure => clear e1 e2 e8; clear k1 k2 k3 k0; have := HZ.out; have := HV.out; simp [intOf]; omega
        · obtain ⟨ap1, hap⟩ : ∃ ap1, ap1 + 1 = a := ⟨a - 1, by clear e1 e2 e8; omega⟩
          have z0 : 0 < a := by clear e1 e2 e8; omega
          have z1 : (ap1 : Int) < (n : Int) := by clear e1 e2 e8; have := HZ.out; omega
          have z2 : (p : Int) < (n : Int) := by clear e1 e2 e8; have := HZ.out; have := HP.out; omega
          have z3 : IntKind.i64.wrap ((a : Int) - 1) = (ap1 : Int) := wsub1 hap (by clear e1 e2 e8; have := HZ.out; omega)
          have HPA := Lib.hid (show a - 1 = ap1 by clear e1 e2 e8; clear z3; omega)
          obtain ⟨ca, -⟩ := HR1.out ap1 (by rw [HS1.out.1]; clear e1 e2 e8; clear z3; have := HZ.out; omega)
          obtain ⟨cp, -⟩ := HR1.out p (by rw [HS1.out.1]; clear e1 e2 e8; clear z3; have := HZ.out; have := HP.out; omega)
          by_cases hl : d1[ap1]! < d1[p]!
          · have C := Lib.hid (fun w1 => show Calls Tryd.prog 93 #[.int .u8 d1[ap1]!, .int .u8 d1[p]!] w1 fun e w' => e = .returned (.bool true) ∧ w' = w1 by have := Less8_any d1[ap1]! d1[p]! w1; rwa [decide_eq_true hl] at this)
            generalize d1[ap1]! = x at C ca cp
            generalize d1[p]! = y at C ca cp
            clear hl hap haz
            go_wp2_with fail
            go_quiet ((go_at_call 93; with_reducible exact Calls.quiet_of_same (C.out _)))
            clear C ca cp z0 z1 z2 z3
            replace HW1 := Lib.hid (HW1.out.drewN nq)
            replace HR1 := Lib.hid (show RowB (wr.drewN nq) b d1 from HR1.out)
            generalize wr.drewN nq = wr at *
            have CP := Lib.hid (part_any b cap n a b1 p d1 wr HS1.out.1 hn (by clear e1 e2 e8; have := HZ.out; omega) (by clear e1 e2 e8; have := HZ.out; omega) (by clear e1 e2 e8; have := HZ.out; have := HP.out; omega) HR1.out)
            obtain ⟨hr1, hr2, hr3, hr4, hr5, hr6⟩ := HS1.out.part (p := p) (by clear e1 e2 e8; have := HZ.out; omega) HP.out.1 HP.out.2
            obtain ⟨rr, hrr⟩ : ∃ rr, partition ltInt d1 a b1 p = rr := ⟨_, rfl⟩
            rw [hrr] at CP hr1 hr2 hr3 hr4 hr5 hr6
            clear hrr
            obtain ⟨mid, ap, d4⟩ := rr
            simp only [] at CP hr1 hr2 hr3 hr4 hr5 hr6
            have H1 := Lib.hid hr1
            have H2 := Lib.hid hr2
            have H3 := Lib.hid hr3
            have H4 := Lib.hid hr4
            have H5 := Lib.hid hr5
            have H6 := Lib.hid hr6
            clear hr1 hr2 hr3 hr4 hr5 hr6
            obtain ⟨ll, hll⟩ : ∃ ll, ll + a = mid := ⟨mid - a, by clear e1 e2 e8; have := H1.out; omega⟩
            obtain ⟨rl, hrl⟩ : ∃ rl, rl + mid = b1 := ⟨b1 - mid, by clear e1 e2 e8; have := H1.out; omega⟩
            obtain ⟨m1, hm1⟩ : ∃ m1, mid + 1 = m1 := ⟨_, rfl⟩
            have HV := Lib.hid (show ll + a = mid ∧ rl + mid = b1 ∧ mid + 1 = m1 ∧ a ≤ mid ∧ mid < b1 from ⟨hll, hrl, hm1, H1.out.1, H1.out.2⟩)
            have k1 : IntKind.i64.wrap ((mid : Int) - (a : Int)) = (ll : Int) := wsub hll (by clear e1 e2 e8; have := HZ.out; have := HV.out; omega)
            have k2 : IntKind.i64.wrap ((b1 : Int) - (mid : Int)) = (rl : Int) := wsub hrl (by clear e1 e2 e8; clear k1; have := HZ.out; have := HV.out; omega)
            have k3 : IntKind.i64.wrap ((mid : Int) + 1) = (m1 : Int) := wadd1 hm1 (by clear e1 e2 e8; clear k1 k2; have := HZ.out; have := HV.out; omega)
            rw [hm1] at H4 H5 H6
            clear hll hrl hm1
            by_cases hlr : ll < rl
            · as_aux_lemma =>
                have k0 : (ll : Int) < (rl : Int) := by clear e1 e2 e8; clear k1 k2 k3; omega
                have CR := Lib.hid (fun w1 (g : Wr b w w1) (h : RowB w1 b d4) => HI.out a mid l1 d4 w1 (by clear e1 e2 e8; clear k1 k2 k3; have := HZ.out; have := HV.out; omega) H2.out (by clear e1 e2 e8; clear k1 k2 k3; have := HZ.out; have := HV.out; omega) (by clear e1 e2 e8; clear k1 k2 k3; have := HZ.out; have := HV.out; omega) (by clear e1 e2 e8; clear k1 k2 k3; have := HZ.out; omega) H3.out h (HG.out w1 g))
                clear hlr HS1 H1 H2 H3 H4 HP
                go_wp2_with (first
                  | (go_at_call 103; (with_reducible refine CP.out.mono ?_); rintro e w1 ⟨rfl, g, r⟩; have GW := Lib.hid (HW1.out.trans g); have GR := Lib.hid r; clear g r)
                  | (go_at_call 73; (with_reducible refine (CR.out _ GW.out GR.out).mono ?_); rintro e w2 ⟨rfl, g, d5, r, r1, r2⟩; have GW2 := Lib.hid (GW.out.trans g); have GR2 := Lib.hid r; have GS2 := Lib.hid (H5.out d5 r1 r2); clear g r r1 r2))
                go_roundw
                case rel => exact ⟨m1, b1, l1, _, ap, d5, rfl, rfl, rfl, rfl, rfl, Lib.hid (by clear e1 e2 e8; clear k1 k2 k3 k0; have := HZ.out; have := HV.out; omega), GW2, GR2, GS2⟩
                case measure => clear e1 e2 e8; clear k1 k2 k3 k0; have := HZ.out; have := HV.out; simp [intOf]; omega
            · as_aux_lemma =>
                have k0 : ¬ (ll : Int) < (rl : Int) := by clear e1 e2 e8; clear k1 k2 k3; omega
                have CR := Lib.hid (fun w1 (g : Wr b w w1) (h : RowB w1 b d4) => HI.out m1 b1 l1 d4 w1 (by clear e1 e2 e8; clear k1 k2 k3; have := HZ.out; have := HV.out; omega) H2.out (by clear e1 e2 e8; clear k1 k2 k3; have := HZ.out; have := HV.out; omega) (by clear e1 e2 e8; clear k1 k2 k3; have := HZ.out; have := HV.out; omega) (by clear e1 e2 e8; clear k1 k2 k3; have := HZ.out; omega) H4.out h (HG.out w1 g))
                clear hlr HS1 H1 H2 H3 H4 HP
                go_wp2_with (first
                  | (go_at_call 103; (with_reducible refine CP.out.mono ?_); rintro e w1 ⟨rfl, g, r⟩; have GW := Lib.hid (HW1.out.trans g); have GR := Lib.hid r; clear g r)
                  | (go_at_call 73; (with_reducible refine (CR.out _ GW.out GR.out).mono ?_); rintro e w2 ⟨rfl, g, d5, r, r1, r2⟩; have GW2 := Lib.hid (GW.out.trans g); have GR2 := Lib.hid r; have GS2 := Lib.hid (H6.out d5 r1 r2); clear g r r1 r2))
                go_roundw
                case rel => exact ⟨a, mid, l1, _, ap, d5, rfl, rfl, rfl, rfl, rfl, Lib.hid (by clear e1 e2 e8; clear k1 k2 k3 k0; have := HZ.out; have := HV.out; omega), GW2, GR2, GS2⟩
                case measure => clear e1 e2 e8; clear k1 k2 k3 k0; have := HZ.out; have := HV.out; simp [intOf]; omega
          · have C := Lib.hid (fun w1 => show Calls Tryd.prog 93 #[.int .u8 d1[ap1]!, .int .u8 d1[p]!] w1 fun e w' => e = .returned (.bool false) ∧ w' = w1 by have := Less8_any d1[ap1]! d1[p]! w1; rwa [decide_eq_false hl] at this)
            obtain ⟨hr1, hr2, hr3⟩ := HS1.out.equal (p := p) (by clear e1 e2 e8; clear z3; have := HZ.out; omega) z0 HP.out.1 HP.out.2 (by rw [HPA.out]; exact hl)
            generalize d1[ap1]! = x at C ca cp
            generalize d1[p]! = y at C ca cp
            clear hl hap haz
            go_wp2_with fail
            go_quiet ((go_at_call 93; with_reducible exact Calls.quiet_of_same (C.out _)))
            clear C ca cp z0 z1 z2 z3
            replace HW1 := Lib.hid (HW1.out.drewN nq)
            replace HR1 := Lib.hid (show RowB (wr.drewN nq) b d1 from HR1.out)
            generalize wr.drewN nq = wr at *
            have CP := Lib.hid (peq_any b cap n a b1 p d1 wr HS1.out.1 hn (by clear e1 e2 e8; have := HZ.out; omega) (by clear e1 e2 e8; have := HZ.out; omega) (by clear e1 e2 e8; have := HZ.out; have := HP.out; omega) HR1.out)
            obtain ⟨rr, hrr⟩ : ∃ rr, partitionEqual ltInt d1 a b1 p = rr := ⟨_, rfl⟩
            rw [hrr] at CP hr1 hr2 hr3
            clear hrr
            obtain ⟨mid, d4⟩ := rr
            simp only [] at CP hr1 hr2 hr3
            have HV := Lib.hid (show a < mid ∧ mid ≤ b1 from ⟨hr1, hr2⟩)
            have GS2 := Lib.hid hr3
            clear hr1 hr2 hr3 HS1 HP
            go_wp2_with (go_at_call 102; (with_reducible refine CP.out.mono ?_); rintro e w1 ⟨rfl, g, r⟩; have GW := Lib.hid (HW1.out.trans g); have GR := Lib.hid r; clear g r)
            go_roundw
            case rel => exact ⟨mid, b1, l1, _, _, d4, rfl, rfl, rfl, rfl, rfl, Lib.hid (by clear e1 e2 e8; have := HZ.out; have := HV.out; omega), GW, GR, GS2⟩
            case measure => clear e1 e2 e8; have := HZ.out; have := HV.out; simp [intOf]; omega

end Go.Proofs.YtehdemcfeoiecaaDoor
