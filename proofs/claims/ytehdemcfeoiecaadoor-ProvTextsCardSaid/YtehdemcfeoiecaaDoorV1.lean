/- Contracts of chapter 9: sums as maps: a new one of a list, and the sum of two. -/
import Derived.Test.YtehdemcfeoiecaaDoorW2
import Derived.Test.YtehdemcfeoiecaaDoorP5
import Derived.Test.YtehdemcfeoiecaaDoorCorp
import Derived.Test.YtehdemcfeoiecaaDoorShelb
import Derived.Test.YtehdemcfeoiecaaDoorS0
import Derived.Maps.OwnSet
import Derived.Maps.OwnOps
import Derived.Maps.RangeWalk
namespace Go.Proofs.YtehdemcfeoiecaaDoor
open Go.RowKit Go.Firn Go.Shelf Go.Maps Go.WideMaps

theorem law9 : Keyed Tryd.prog 9 := string_keyed Tryd.underlying9
theorem zero3 (w : World) : (zeroValue 3).run Tryd.prog w = .ok (.int .i64 0) w := by kernel_rfl
/-- The block b is the map of the list L. -/
def OwL (w : World) (b n : Nat) (L : SL) : Prop := w.ownsMap (H := Unit) Tryd.prog 9 (plainElem (H := Unit) Tryd.prog 3) b n (mapD L)
theorem OwL.gr {w w' : World} {b n : Nat} {L : SL} (h : OwL w b n L) (g : Gr w w') : OwL w' b n L :=
  World.ownsMap.kept (row := none) h ⟨g.os, g.tape, g.output, Gr.size g, fun k hk _ => Below.block g k hk⟩ (by simp)
theorem OwL.wr {w w' : World} {b s n : Nat} {L : SL} (h : OwL w b n L) (g : Wr s w w') (hne : b ≠ s) : OwL w' b n L := World.ownsMap.kept h g (fun e => hne (Option.some.inj e))
theorem OwL.lt {w : World} {b n : Nat} {L : SL} (h : OwL w b n L) : b < w.heap.size := World.ownsMap.lt h
theorem OwL.le {w : World} {b n : Nat} {L : SL} (h : OwL w b n L) : L.length ≤ n := by
  have := World.ownsMap.size_le h
  rwa [mapD_size] at this

/-- A sum as a map. -/
def RetLn (N : Nat) (L : SL) (w : World) (e : Ending) (w' : World) : Prop := ∃ b n, e = .returned (.map (some b)) ∧ n ≤ N ∧ OwL w' b n L ∧ Gr w w' ∧ w.heap.size ≤ b
def RetL (L : SL) (w : World) (e : Ending) (w' : World) : Prop := RetLn 900000 L w e w'

theorem key_len {s : ByteArray} (h : s.size ≤ 9223372036854775807) : s.size ≤ maxLen := by unfold maxLen; omega
theorem wf_of {x : Int} (h0 : 0 ≤ x) (h : x ≤ 9223372036854775807) : (Lit.int .i64 x).wf = true := WalkArith.wf_i64 (by omega)

set_option maxRecDepth 100000 in
set_option maxHeartbeats 4000000 in
theorem newSum_any (a : Option Addr) (n c : Nat) (f : Nat → ByteArray) (g : Nat → Int) (w : World) (hS : Srt (ofS f g n)) (hn : n ≤ 900000) (hz : ∀ i, i < n → (f i).size ≤ 9223372036854775807 ∧ 1 ≤ g i ∧ g i ≤ 9223372036854775807) (hr : RdS w a n f g) :
    Calls Tryd.prog 60 #[.slice a n c] w (RetLn n (ofS f g n) w) := by
  have HR := Lib.hid hr
  have HZ := Lib.hid hz
  have HS := Lib.hid (fun k (hk : k < n) => show ∀ x ∈ ofS f g k, x.1 < (f k).data.toList from fun x hx => by
    obtain ⟨i, hi, rfl⟩ := ofS_mem.1 hx
    have := (List.pairwise_iff_getElem.1 hS) i k (by rw [ofS_length]; omega) (by rw [ofS_length]; exact hk) hi
    have e1 : (ofS f g n)[i]'(by rw [ofS_length]; omega) = ((f i).data.toList, g i) := by have := ofS_get (f := f) (g := g) (n := n) (i := i) (by omega); rw [List.getElem?_eq_getElem (by rw [ofS_length]; omega)] at this; simpa using this
    have e2 : (ofS f g n)[k]'(by rw [ofS_length]; exact hk) = ((f k).data.toList, g k) := by have := ofS_get (f := f) (g := g) (n := n) (i := k) hk; rw [List.getElem?_eq_getElem (by rw [ofS_length]; exact hk)] at this; simpa using this
    rw [e1, e2] at this
    exact this)
  have HT := Lib.hid (fun k (hk : k ≤ n) => show Srt (ofS f g k) by
    have e : ofS f g k = (ofS f g n).take k := by
      unfold ofS
      rw [← List.map_take, List.take_range, Nat.min_eq_left hk]
    rw [e]
    exact hS.sublist (List.take_sublist _ _))
  have hmm := @run_makeMap Tryd.prog
  clear hr hz hS
  go_enter Tryd.func60, Tryd.ntmps60
  go_wp2
  go_loopw [9] (fun si wr => ∃ k : Nat, k ≤ n ∧ si = .int .i64 k ∧ Hid (OwL wr w.heap.size k (ofS f g k)) ∧ Hid (Gr w wr)) (fun si _ => n - (intOf si).toNat)
  case atStart => exact ⟨0, Nat.zero_le _, rfl, Lib.hid (World.ownsMap_made _ _ _ _), Lib.hid ((Gr.refl w).alloc _)⟩
  case round =>
    obtain ⟨k, hk, rfl, HO, HG⟩ := hrel
    by_cases hlt : k < n
    · have i1 : (k : Int) < (n : Int) := by omega
      obtain ⟨b, o, rfl, hc⟩ := (HR.out.gr HG.out).at hlt
      obtain ⟨k0, k1⟩ := hc k hlt
      obtain ⟨z0, z1⟩ := box2 wr (f k) (g k) 34
      obtain ⟨y0, y1, y2⟩ := HZ.out k hlt
      have HO2 := Lib.hid (HO.out.gr ((Gr.refl wr).alloc (.cells #[.string (f k), .int .i64 (g k)] 34)))
      have HG2 := Lib.hid (HG.out.alloc (.cells #[.string (f k), .int .i64 (g k)] 34))
      have hkey := Lib.hid (show keyOf Tryd.prog 9 (.string (f k)) = some (.string (f k).data.toList) from keyOf_string_mk Tryd.underlying9 (key_len y0))
      have HL := Lib.hid (show (mapD (H := Unit) (ofS f g k)).put (.string (f k).data.toList) (.lit (.int .i64 (g k))) = mapD (ofS f g (k + 1)) by rw [mapD_put (HT.out k (by omega)), set_last (HS.out k hlt), ofS_succ])
      have hwf := Lib.hid (wf_of (by omega) y2 : (Lit.int .i64 (g k)).wf = true)
      clear hc
      generalize f k = s at *
      generalize g k = mm at *
      obtain ⟨L2, hL2⟩ : ∃ L2, ofS f g (k + 1) = L2 := ⟨_, rfl⟩
      rw [hL2] at HL
      have HL2 := Lib.hid hL2
      clear hL2
      generalize ofS f g k = L1 at *
      clear y0 y1 y2 HO HG
      go_wp2_with (first
        | (at_mapUpdate; refine wpList_mapUpdate_own _ rfl _ _ _ 75 rfl 9 3 law9 Tryd.underlying75 _ w.heap.size k _ rfl HO2.out (by unfold maxLen; omega) _ _ _ rfl rfl hkey.out _ [] (plainElem_int Tryd.underlying3 hwf.out) ?_; intro w1 hown1 hgrow1)
        | go_in)
      rw [HL.out] at hown1
      have R1 := Lib.hid hown1
      have R2 := Lib.hid (HG2.out.grown hgrow1 (fun j hj => by cases hj; exact Nat.le_refl _))
      clear hown1 hgrow1
      go_wp2
      go_roundw
      case rel => exact ⟨k + 1, hlt, by go_num, Lib.hid (by rw [HL2.out]; exact R1.out), R2⟩
      case measure => simp [intOf]; omega
    · obtain rfl : k = n := by omega
      have i1 : ¬ (k : Int) < (k : Int) := by omega
      go_wp2_with fail
      go_ret
      exact ⟨_, _, rfl, Nat.le_refl _, HO.out, HG.out, Nat.le_refl _⟩

/-- What an entry is that has come. -/
theorem entry_of {L : SL} {left : Lit → Bool} {x : List UInt8} {c : Int} {kl : Lit} {yd : DataW Unit} {yp : List MemPlace} (hk : keyOf Tryd.prog 9 (Go.Proofs.encStr x) = some kl) (hl : left kl = true) (hv : plainElem (H := Unit) Tryd.prog 3 (Value.int .i64 c) = some (yd, yp)) (hat : ∀ zd, (mapD (H := Unit) L).atKey kl zd = yd) (hS : Srt L) :
    kl = .string x ∧ left (.string x) = true ∧ (x, c) ∈ L := by
  obtain ⟨x', ex, rfl, _⟩ := Maps.keyOf_str Tryd.underlying9 hk
  obtain rfl : x = x' := encStr_inj ex
  obtain ⟨n, hn, e⟩ := lft_mem hS hat
  obtain ⟨c', ec, e2, _⟩ := plainElem_int_inv Tryd.underlying3 hv
  obtain rfl : c = c' := by simpa using ec
  simp only [Prod.mk.injEq] at e2
  rw [e] at e2
  have : n = c := by simpa using e2.1
  subst this
  exact ⟨rfl, hl, hn⟩
theorem atL_bd {L : SL} (hp : Pos L) (k : Key) : 0 ≤ atL k L ∧ atL k L ≤ tot (fun _ => 1) L := by
  induction L with
  | nil => simp [atL, tot]
  | cons x r ih =>
    have h1 := hp x List.mem_cons_self
    have h2 := ih (fun y hy => hp y (List.mem_cons_of_mem _ hy))
    have h3 : 0 ≤ tot (fun _ => 1) r := Int.le_trans h2.1 h2.2
    unfold atL
    simp only [tot]
    split <;> omega
theorem tot_one_mem {L : SL} (hp : Pos L) {x : Key × Int} (hx : x ∈ L) : 1 ≤ x.2 ∧ x.2 ≤ tot (fun _ => 1) L := by
  induction L with
  | nil => cases hx
  | cons y r ih =>
    have h1 := hp y List.mem_cons_self
    have h3 : 0 ≤ tot (fun _ => 1) r := by
      have := atL_bd (L := r) (fun z hz => hp z (List.mem_cons_of_mem _ hz)) []
      omega
    simp only [tot]
    rcases List.mem_cons.1 hx with rfl | hx
    · omega
    · have := ih (fun z hz => hp z (List.mem_cons_of_mem _ hz)) hx
      omega
theorem lft_pos {L : SL} (hp : Pos L) (left : Lit → Bool) : Pos (lft left L) := fun x hx => hp x (List.mem_filter.1 hx).1
theorem tot_one_pos {L : SL} (hp : Pos L) : 0 ≤ tot (fun _ => 1) L := by
  have := atL_bd hp []
  omega

set_option maxRecDepth 100000 in
set_option maxHeartbeats 8000000 in
/-- The sum of two sums. -/
theorem plus_any (bs bt ns nt : Nat) (Ls Lt : SL) (w : World) (hs : OwL w bs ns Ls) (ht : OwL w bt nt Lt) (hns : ns + nt ≤ 900000) (ss : Srt Ls) (st : Srt Lt) (ps : Pos Ls) (pt : Pos Lt) (hT : tot (fun _ => 1) Ls + tot (fun _ => 1) Lt ≤ 4000000000000000000) :
    Calls Tryd.prog 38 #[.map (some bs), .map (some bt)] w (RetL (plusL Ls Lt) w) := by
  have C1 := Lib.hid (AnyW.maps_Clone_owns (H := Unit) Tryd.mclone62 9 (plainElem (H := Unit) Tryd.prog 3) bs ns (mapD Ls) w hs)
  have HT := Lib.hid ht
  have HA := Lib.hid (And.intro ss (And.intro st (And.intro ps pt)))
  have HB := Lib.hid hT
  obtain ⟨mc, hmc⟩ : ∃ mc, w.heap.size = mc := ⟨_, rfl⟩
  have HM := Lib.hid (show w.heap.size = mc ∧ bt < mc from ⟨hmc, by have := ht.lt; omega⟩)
  clear hs ht ss st ps pt hT
  go_enter Tryd.func38, Tryd.ntmps38
  go_wp2_with (first
    | (go_at_call 62; refine C1.out.mono ?_; rintro e w1 ⟨rfl, h1, h2, h3⟩; have H1 := Lib.hid (show OwL w1 mc ns Ls from HM.out.1 ▸ h1); have HT1 := Lib.hid (HT.out.gr h3); have HG1 := Lib.hid (show Gr w w1 from h3); clear h1 h2 h3)
    | (at_range; refine wpList_range_own _ rfl _ 75 rfl 9 3 law9 Tryd.underlying75 _ bt nt _ rfl HT1.out ?_; intro w0 hrg0 hg0 hs0; have HRg := Lib.hid hrg0; have HG0 := Lib.hid hg0; have HS0 := Lib.hid hs0; clear hrg0 hg0 hs0)
    | go_in)
  go_frame
  obtain ⟨r, hr⟩ : ∃ r, w1.heap.size = r := ⟨_, rfl⟩
  rw [hr]
  replace HRg := Lib.hid (hr ▸ HRg.out)
  have HR0 := Lib.hid (show mc < r ∧ bt < mc by have := H1.out.lt; have := HM.out; omega)
  have HO0 := Lib.hid (show OwL w0 mc ns Ls from World.ownsMap.kept H1.out HG0.out (by simp))
  have HGw := Lib.hid (show Gr w w0 from HG1.out.grown HG0.out (fun k hk => by cases hk))
  have HM' := Lib.hid HM.out.2
  have HI0 := Lib.hid (show ∀ φ, tot φ Ls + tot φ (lft (Maps.has (mapD (H := Unit) Lt)) Lt) = tot φ Ls + tot φ Lt from fun φ => by rw [lft_all])
  have HC0 := Lib.hid (show ns + Maps.size (mapD (H := Unit) Lt) ≤ 900000 by rw [mapD_size]; have := HT1.out.le; omega)
  have HW := Lib.hid (show w.heap.size ≤ mc by omega)
  have HWr := Lib.hid (show w.heap.size ≤ r by have := HR0.out; omega)
  clear hr hmc HM C1 HG0 HS0 H1 HT1 HG1 HT
  go_loopw [6, 7] (fun _ _ wr => ∃ (left : Lit → Bool) (cnt nn : Nat) (Lo : SL), Hid (wr.ranges (H := Unit) Tryd.prog 9 (plainElem (H := Unit) Tryd.prog 3) bt r nt (mapD Lt) left cnt) ∧ Hid (OwL wr mc nn Lo) ∧ Hid (nn + cnt ≤ 900000) ∧ Hid (Srt Lo ∧ Pos Lo) ∧ Hid (∀ φ, tot φ Lo + tot φ (lft left Lt) = tot φ Ls + tot φ Lt) ∧ Hid (Gr w wr))
    (fun _ _ wr => wr.rangeLeft bt r)
  case atStart => exact ⟨_, _, ns, Ls, HRg, HO0, HC0, Lib.hid ⟨HA.out.1, HA.out.2.2.1⟩, HI0, HGw⟩
  case round =>
    clear HRg HO0 HC0 HI0 HGw
    obtain ⟨left, cnt, nn, Lo, HRg, HO, HC, HP, HI, HG⟩ := hrel
    go_wp2_with (first
      | (at_next; refine wpList_next_ranges _ rfl _ rfl 9 law9 (plainElem (H := Unit) Tryd.prog 3) Go.Proofs.encStr (Value.int .i64) (fun key kl hk => by obtain ⟨x, hx, _⟩ := Maps.keyOf_str Tryd.underlying9 hk; exact ⟨x, hx⟩) (fun v y hv => by obtain ⟨c, rfl, _⟩ := plainElem_int_inv Tryd.underlying3 hv; exact ⟨c, rfl⟩) bt r nt _ _ _ rfl HRg.out ?_ ?_)
      | go_in)
    · intro _ hl0
      have HL := Lib.hid (show Lo = plusL Ls Lt from uniq HP.out.1 HA.out.1.plus HP.out.2 (Pos.plus HA.out.2.2.2 HA.out.2.2.1) fun φ => by have := HI.out φ; rw [lft_none hl0, tot_plus] at *; simpa [tot] using this)
      clear hl0
      go_wp2
      go_ret
      exact ⟨mc, nn, rfl, by have := HC.out; omega, by rw [← HL.out]; exact HO.out, HG.out, HW.out⟩
    · intro x c kl yd yp w2 cnt2 hkey hlk hv hat hrg2 hlt hg2 hs2 hen
      obtain ⟨rfl, hlx, hmem⟩ := entry_of hkey hlk hv hat HA.out.2.1
      have HRg2 := Lib.hid hrg2
      have HLt := Lib.hid hlt
      have HG2 := Lib.hid (show Gr w w2 from HG.out.grown hg2 (fun k hk => by cases hk; exact HWr.out))
      have HO2 := Lib.hid (show OwL w2 mc nn Lo from World.ownsMap.kept HO.out hg2 (by have := HR0.out; simp; omega))
      have HK := Lib.hid hkey
      have HN := Lib.hid (lft_step (n := c) · hlx HA.out.2.1 hmem)
      have HV := Lib.hid (tot_one_mem HA.out.2.2.2 hmem)
      have HVo := Lib.hid (show 0 ≤ atL x Lo ∧ atL x Lo + c ≤ tot (fun _ => 1) Ls + tot (fun _ => 1) Lt from by
        have h1 := atL_bd HP.out.2 x
        have h2 := HI.out (fun _ => 1)
        have h3 := HN.out (fun _ => 1)
        have h4 := tot_one_pos (lft_pos HA.out.2.2.2 (fun z => left z && !z.sameKey (.string x)))
        omega)
      have HP2 := Lib.hid (show Srt (putL x c Lo) ∧ Pos (putL x c Lo) from ⟨HP.out.1.put, HP.out.2.put HV.out.1⟩)
      have HI2 := Lib.hid (show ∀ φ, tot φ (putL x c Lo) + tot φ (lft (fun z => left z && !z.sameKey (.string x)) Lt) = tot φ Ls + tot φ Lt from fun φ => by rw [tot_put, ← HI.out φ, HN.out φ]; omega)
      have HQ := Lib.hid (show ∀ v, (mapD (H := Unit) Lo).atKey (.string x) (.lit (.int .i64 0)) = .lit (.int .i64 v) → (0 ≤ v ∧ v + c ≤ 4000000000000000000) ∧ (mapD (H := Unit) Lo).put (.string x) (.lit (.int .i64 (v + c))) = mapD (putL x c Lo) from fun v hv => by
        rw [mapD_at] at hv
        obtain rfl : atL x Lo = v := by simpa using hv
        exact ⟨⟨HVo.out.1, by have := HVo.out; have := HB.out; omega⟩, by rw [mapD_put HP.out.1, set_at HP.out.1]⟩)
      have HC2 := Lib.hid (show nn + 1 + cnt2 ≤ 900000 by have := HC.out; have := HLt.out; omega)
      have HOld := HRg
      have HCc := Lib.hid HV.out.1
      clear hrg2 hlt hg2 hs2 hv hat hlk hkey hmem hlx HVo HP HI HN HO HG HC HRg HV
      obtain ⟨L2, hL2⟩ : ∃ L2, putL x c Lo = L2 := ⟨_, rfl⟩
      rw [hL2] at HP2 HI2 HQ
      clear hL2
      obtain ⟨sx0, hsx⟩ : ∃ sx0 : ByteArray, Go.Proofs.encStr x = .string sx0 := ⟨⟨x.toArray⟩, rfl⟩
      have HKx := Lib.hid (show keyOf Tryd.prog 9 (.string sx0) = some (.string x) by rw [← hsx]; exact HK.out)
      rw [hsx] at hen
      rw [hsx]
      clear hsx HK
      have HN1 := Lib.hid (show nn < maxLen by have := HC2.out; unfold maxLen; omega)
      have HWf := Lib.hid (fun (v : Int) (h0 : 0 ≤ v) (h1 : v + c ≤ 4000000000000000000) => show (Lit.int .i64 (v + c)).wf = true from wf_of (by have := HCc.out; omega) (by omega))
      go_wp2_with (first
        | (at_lookup; refine wpList_lookup_own_int _ rfl _ _ 75 rfl 9 3 .i64 law9 Tryd.underlying75 Tryd.underlying3 (zero3 _) mc nn _ rfl HO2.out _ _ rfl HKx.out ?_; intro v hv hwv; have HV := Lib.hid (HQ.out v hv); have e1 : IntKind.i64.wrap (v + c) = v + c := IntWalk.i64_in _ (by have := HV.out.1; have := HCc.out; omega); clear hv hwv)
        | (at_mapUpdate; refine wpList_mapUpdate_own _ rfl _ _ _ 75 rfl 9 3 law9 Tryd.underlying75 _ mc nn _ rfl HO2.out HN1.out _ _ _ rfl rfl HKx.out _ [] (plainElem_int Tryd.underlying3 (HWf.out v HV.out.1.1 HV.out.1.2)) ?_; intro w3 hown3 hgrow3; have HO3 := Lib.hid (show OwL w3 mc (nn + 1) L2 by rw [HV.out.2] at hown3; exact hown3); have HG3 := Lib.hid (HG2.out.grown hgrow3 (fun k hk => by cases hk; exact HW.out)); have HRg3 := Lib.hid (HRg2.out.kept hgrow3 (by have := HR0.out; simp; omega) (by have := HR0.out; simp; omega)); clear hown3 hgrow3 e1)
        | go_in)
      go_roundw
      case rel => exact ⟨_, cnt2, HRg3, nn + 1, L2, HO3, HC2, HP2, HI2⟩
      case measure => rw [HRg3.out.left_eq, HOld.out.left_eq]; exact HLt.out

end Go.Proofs.YtehdemcfeoiecaaDoor
