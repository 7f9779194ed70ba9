import Derived.Laws.Concat
import Derived.Test.YtehdemcfeoiecaaGreatDoorK05
set_option maxHeartbeats 64000000
set_option maxRecDepth 100000
namespace Go.Proofs.YtehdemcfeoiecaaGreatDoor
open Go.RowKit Go.Firn Go.Shelf Go.Maps Go.WideMaps
theorem conv_row (s : ByteArray) (w : World) : ∃ b cp W1, (convert 9 176 (.string s)).run Tryz.prog w = .ok (.slice (some ⟨b, 0, none⟩) s.size cp) W1 ∧ Gr w W1 ∧ w.heap.size ≤ b ∧ b < W1.heap.size ∧ RowB W1 b (kb s.data.toList) := by
 obtain ⟨b, cp, W1, h1, h2, h3, h4, _, h6⟩ := conv_bytes (P := Tryz.prog) (src := 9) (dst := 176) (e := 5) Tryz.underlying9 Tryz.underlying176 Tryz.underlying5 s w
 refine ⟨b, cp, W1, h1, h2, h3, h4, fun p hp => ?_⟩
 rw [kb_size, size_key] at hp
 obtain ⟨hl, e⟩ := bt_key hp
 have := h6 p hp
 rw [kb_at hl, ← e]
 exact this
theorem back_row {w : World} {b cp : Nat} {k : Key} (h : RowB w b (kb k)) : (convert 176 9 (.slice (some ⟨b, 0, none⟩) k.length cp)).run Tryz.prog w = .ok (.string ⟨k.toArray⟩) w :=
 run_convert_bytes_back w 176 9 5 ⟨b, 0, none⟩ cp k Tryz.underlying176 Tryz.underlying5 Tryz.underlying9 (fun j hj => by
  have := (h j (by rw [kb_size]; exact hj)).1
  rw [kb_at hj] at this
  rw [add_flat rfl]
  simpa using this)
theorem sortK (b cap n : Nat) (k : Key) (w : World) (hk : k.length = n) (hn : n ≤ 1000000) (hw : RowB w b (kb k)) (hb : b < w.heap.size) :
  Calls Tryz.prog 143 #[.slice (some ⟨b, 0, none⟩) n cap] w fun e w' => e = .returned (.tuple #[]) ∧ Wr b w w' ∧ RowB w' b (kb (k.mergeSort fun a b => decide (a ≤ b))) := by
 refine (sort8_any b cap n (kb k) w (by rw [kb_size]; exact hk) hn hw hb).mono ?_
 rintro e w' ⟨h1, h2, d, h3, h4⟩
 exact ⟨h1, h2, kb_sort h4 ▸ h3⟩
theorem backK {w : World} {b cp n : Nat} {k : Key} (hk : k.length = n) (h : RowB w b (kb k)) : (convert 176 9 (.slice (some ⟨b, 0, none⟩) n cp)).run Tryz.prog w = .ok (.string ⟨k.toArray⟩) w := by
 subst hk; exact back_row h
theorem tot_nonneg {φ : Key → Int} (hφ : ∀ k, 0 ≤ φ k) : ∀ {L : SL}, Pos L → 0 ≤ tot φ L
 | [], _ => Int.le_refl _
 | x :: r, hp => by
  have h1 := hp x List.mem_cons_self
  have h2 := tot_nonneg hφ (L := r) (fun y hy => hp y (List.mem_cons_of_mem _ hy))
  have h3 := Int.mul_nonneg (show (0 : Int) ≤ x.2 by omega) (hφ x.1)
  simp only [tot]
  omega
theorem times_step {Lo Lt : SL} {x y : Key} {c m : Int} {lf : Lit → Bool} {R T : (Key → Int) → Int} (hP : Srt Lo ∧ Pos Lo) (hs : Srt Lt) (hp : Pos Lt) (hI : ∀ φ, tot φ Lo + c * tot (fun q => φ (mx x q)) (lft lf Lt) + R φ = T φ) (hT : T (fun _ => 1) ≤ 4000000000000000000) (hR : 0 ≤ R (fun _ => 1)) (hc : 1 ≤ c) (hl : lf (.string y) = true) (hm : (y, m) ∈ Lt) :
  (1 ≤ c * m ∧ c * m ≤ 4000000000000000000) ∧ (Srt (putL (mx x y) (c * m) Lo) ∧ Pos (putL (mx x y) (c * m) Lo)) ∧ (∀ φ, tot φ (putL (mx x y) (c * m) Lo) + c * tot (fun q => φ (mx x q)) (lft (fun z => lf z && !z.sameKey (.string y)) Lt) + R φ = T φ) ∧
  (∀ v, (mapD (H := Unit) Lo).atKey (.string (mx x y)) (.lit (.int .i64 0)) = .lit (.int .i64 v) → (0 ≤ v ∧ v + c * m ≤ 4000000000000000000) ∧ (mapD (H := Unit) Lo).put (.string (mx x y)) (.lit (.int .i64 (v + c * m))) = mapD (putL (mx x y) (c * m) Lo)) := by
 have hm1 : 1 ≤ m := hp _ hm
 have hcm : 1 ≤ c * m := by have := Int.mul_le_mul hc hm1 (by omega) (by omega); simpa using this
 have hst : ∀ φ : Key → Int, c * tot φ (lft lf Lt) = c * m * φ y + c * tot φ (lft (fun z => lf z && !z.sameKey (.string y)) Lt) := fun φ => by rw [lft_step φ hl hs hm, Int.mul_add, Int.mul_assoc]
 have h0 : 0 ≤ c * tot (fun _ => 1) (lft (fun z => lf z && !z.sameKey (.string y)) Lt) := Int.mul_nonneg (by omega) (tot_nonneg (fun _ => by omega) (lft_pos hp _))
 have hb : ∀ k, 0 ≤ atL k Lo ∧ atL k Lo + c * m ≤ 4000000000000000000 := fun k => by
  have h1 := atL_bd hP.2 k
  have h2 := hI (fun _ => 1)
  have h3 := hst (fun _ => 1)
  simp only [Int.mul_one] at h3
  omega
 refine ⟨⟨hcm, by have := hb []; omega⟩, ⟨hP.1.put, hP.2.put hcm⟩, fun φ => ?_, fun v hv => ?_⟩
 ·rw [tot_put, ← hI φ, hst]
  omega
 rw [mapD_at] at hv
 obtain rfl : atL (mx x y) Lo = v := by simpa using hv
 exact ⟨hb _, by rw [mapD_put hP.1, set_at hP.1]⟩
theorem add_two {sx sy : ByteArray} {x y : Key} (hx : sx.data.toList = x) (hy : sy.data.toList = y) (zx : x.length ≤ 400000) (zy : y.length ≤ 400000) : ∃ sxy : ByteArray, (∀ w, (Op.stringOp .add sx sy).run Tryz.prog w = .ok (.string sxy) w) ∧ sxy.data.toList = x ++ y ∧ sxy.size = (x ++ y).length ∧ sxy.size ≤ 800000 := by
 subst hx hy
 rw [size_key] at zx zy
 have e : (sx ++ sy).data.toList = sx.data.toList ++ sy.data.toList := by simp
 have z : (sx ++ sy).size = sx.size + sy.size := by simp
 exact ⟨sx ++ sy, fun w => run_string_add w sx sy (by omega) (by omega), e, by rw [← e, size_key], by omega⟩
theorem times_any (bs bt ns nt : Nat) (Ls Lt : SL) (w : World) (hs : OwL w bs ns Ls) (ht : OwL w bt nt Lt) (hns : ns ≤ 1000) (hnt : nt ≤ 800) (ss : Srt Ls) (st : Srt Lt) (ps : Pos Ls) (pt : Pos Lt) (hT : tot (fun _ => 1) (timesL Ls Lt) ≤ 4000000000000000000)
  (zs : ∀ x ∈ Ls, x.1.length ≤ 400000) (zt : ∀ x ∈ Lt, x.1.length ≤ 400000) :
  Calls Tryz.prog 109 #[.map (some bs), .map (some bt)] w (RetL (timesL Ls Lt) w) := by
 have HSs := Lh hs
 have HTt := Lh ht
 have HA := Lh (And.intro ss (And.intro st (And.intro ps pt)))
 have HB := Lh hT
 have HZ := Lh (And.intro zs zt)
 have HLs := Lh (show Ls.length ≤ ns ∧ Lt.length ≤ nt from ⟨hs.le, ht.le⟩)
 have hmm := @run_makeMap Tryz.prog
 obtain ⟨mo, hmo⟩ : ∃ mo, w.heap.size = mo := ⟨_, rfl⟩
 have H0 := Lh (show OwL (w.alloc (.map #[] 0)) mo 0 [] by rw [← hmo]; exact World.ownsMap_made _ _ _ _)
 have HSs1 := Lh (hs.gr ((Gr.refl w).alloc (.map #[] 0)))
 have HG1 := Lh ((Gr.refl w).alloc (.map #[] 0))
 have HBl := Lh (show bs < mo ∧ bt < mo ∧ w.heap.size = mo from ⟨by have := hs.lt; omega, by have := ht.lt; omega, hmo⟩)
 clear hs ht ss st ps pt hT zs zt
 go_enter Tryz.func109, Tryz.ntmps109
 go_wp2_with (first
  | (at_range; refine wpList_range_own _ rfl _ 113 rfl 9 3 law9 Tryz.underlying113 _ bs ns _ rfl HSs1.out ?_; intro w0 hrg0 hg0 hs0; have HRg := Lh hrg0; have HG0 := Lh hg0; clear hrg0 hg0 hs0)
  | go_in)
 go_frame
 obtain ⟨r1, hr1⟩ : ∃ r1, (w.alloc (.map #[] 0)).heap.size = r1 := ⟨_, rfl⟩
 have hr1' : mo + 1 = r1 := by rw [← hr1, ← hmo]; simp
 rw [hr1]
 replace HRg := Lh (hr1 ▸ HRg.out)
 have HO0 := Lh (show OwL w0 mo 0 [] from World.ownsMap.kept H0.out HG0.out (by simp))
 have HGw := Lh (show Gr w w0 from HG1.out.grown HG0.out (fun k hk => by cases hk))
 have HR0 := Lh (show mo < r1 ∧ w.heap.size ≤ mo ∧ w.heap.size ≤ r1 ∧ bt < mo ∧ bs < mo from ⟨by omega, by omega, by omega, HBl.out.2.1, HBl.out.1⟩)
 have HTOT := Lh (show ∀ φ, tot φ (timesL Ls Lt) = tot (fun p => tot (fun q => φ (mx p q)) Lt) Ls from fun φ => tot_times φ Ls Lt)
 have HI0 := Lh (show ∀ φ, tot φ [] + tot (fun p => tot (fun q => φ (mx p q)) Lt) (lft (Maps.has (mapD (H := Unit) Ls)) Ls) = tot φ (timesL Ls Lt) from fun φ => by rw [lft_all, tot_times]; simp [tot])
 have HC0 := Lh (show 0 + Maps.size (mapD (H := Unit) Ls) * Lt.length ≤ 800000 by
  rw [mapD_size]
  have := Nat.mul_le_mul (Nat.le_trans HLs.out.1 hns) (Nat.le_trans HLs.out.2 hnt)
  omega)
 clear hr1 hr1' hmo HSs1 HG1 H0 HG0 HSs hmm
 go_loopw [6, 7] (fun _ _ wr => ∃ (left : Lit → Bool) (cnt nn : Nat) (Lo : SL), Hid (wr.ranges (H := Unit) Tryz.prog 9 (plainElem (H := Unit) Tryz.prog 3) bs r1 ns (mapD Ls) left cnt) ∧ Hid (OwL wr mo nn Lo) ∧ Hid (nn + cnt * Lt.length ≤ 800000) ∧ Hid (Srt Lo ∧ Pos Lo) ∧ Hid (∀ φ, tot φ Lo + tot (fun p => tot (fun q => φ (mx p q)) Lt) (lft left Ls) = tot φ (timesL Ls Lt)) ∧ Hid (Gr w wr))
  (fun _ _ wr => wr.rangeLeft bs r1)
 case atStart => exact ⟨_, _, 0, [], HRg, HO0, HC0, Lh ⟨List.Pairwise.nil, by simp [Pos]⟩, HI0, HGw⟩
 case round =>
  clear HRg HO0 HC0 HI0 HGw
  obtain ⟨left, cnt, nn, Lo, HRg, HO, HC, HP, HI, HG⟩ := hrel
  go_wp2_with (first
   | (at_next; refine wpList_next_ranges _ rfl _ rfl 9 law9 (plainElem (H := Unit) Tryz.prog 3) Go.Proofs.encStr (Value.int .i64) (fun key kl hk => by obtain ⟨x, hx, _⟩ := Maps.keyOf_str Tryz.underlying9 hk; exact ⟨x, hx⟩) (fun v y hv => by obtain ⟨c, rfl, _⟩ := plainElem_int_inv Tryz.underlying3 hv; exact ⟨c, rfl⟩) bs r1 ns _ _ _ rfl HRg.out ?_ ?_)
   | go_in)
  ·intro _ hl0
   have HL := Lh (show Lo = timesL Ls Lt from uniq HP.out.1 Srt.times HP.out.2 (Pos.times HA.out.2.2.1 HA.out.2.2.2) fun φ => by have := HI.out φ; rw [lft_none hl0] at this; simpa [tot] using this)
   clear hl0
   go_wp2
   go_ret
   exact ⟨mo, nn, rfl, by have := HC.out; omega, by rw [← HL.out]; exact HO.out, HG.out, HR0.out.2.1⟩
  intro x c kl yd yp w2 cnt2 hkey hlk hv hat hrg2 hlt hg2 hs2 hen
  obtain ⟨rfl, hlx, hmem⟩ := entry_of hkey hlk hv hat HA.out.1
  have HRg2 := Lh hrg2
  have HLt := Lh hlt
  have HG2 := Lh (show Gr w w2 from HG.out.grown hg2 (fun k hk => by cases hk; exact HR0.out.2.2.1))
  have HO2 := Lh (show OwL w2 mo nn Lo from World.ownsMap.kept HO.out hg2 (by have := HR0.out; simp; omega))
  have HT2 := Lh (HTt.out.gr HG2.out)
  have HN := Lh (lft_step (n := c) · hlx HA.out.1 hmem)
  have HV := Lh (tot_one_mem HA.out.2.2.1 hmem)
  have HZx := Lh (HZ.out.1 _ hmem)
  obtain ⟨sx0, hsx⟩ : ∃ sx0 : ByteArray, Go.Proofs.encStr x = .string sx0 ∧ sx0.data.toList = x := ⟨⟨x.toArray⟩, rfl, rfl⟩
  rw [hsx.1] at hen
  rw [hsx.1]
  have HSx := Lh hsx.2
  have HOld := HRg
  clear hrg2 hlt hg2 hs2 hv hat hlk hkey hmem hlx hsx HRg HO HG
  go_wp2_with (first
   | (at_range; refine wpList_range_own _ rfl _ 113 rfl 9 3 law9 Tryz.underlying113 _ bt nt _ rfl HT2.out ?_; intro w3 hrg3 hg3 hs3; have HRi := Lh hrg3; have HG3 := Lh hg3; clear hrg3 hg3 hs3)
   | go_in)
  obtain ⟨r2, hr2⟩ : ∃ r2, w2.heap.size = r2 := ⟨_, rfl⟩
  rw [hr2]
  replace HRi := Lh (hr2 ▸ HRi.out)
  have HRo := Lh (HRg2.out.kept HG3.out (by simp) (by simp))
  have HOo := Lh (show OwL w3 mo nn Lo from World.ownsMap.kept HO2.out HG3.out (by simp))
  have HGo := Lh (show Gr w w3 from HG2.out.grown HG3.out (fun k hk => by cases hk))
  have HR2 := Lh (show mo < r2 ∧ r1 < r2 ∧ bs < r2 ∧ bt < r2 ∧ w.heap.size ≤ r2 by
   have h1 := HRg2.out.lt
   have h2 := HO2.out.lt
   have := HR0.out
   refine ⟨by omega, by omega, by omega, by omega, by omega⟩)
  have HZ2 := Lh (HRi.out.lt)
  obtain ⟨R, hR⟩ : ∃ R : (Key → Int) → Int, R = fun φ => tot (fun p => tot (fun q => φ (mx p q)) Lt) (lft (fun z => left z && !z.sameKey (.string x)) Ls) := ⟨_, rfl⟩
  have HRp := Lh (show 0 ≤ R (fun _ => 1) by rw [hR]; exact tot_nonneg (fun _ => tot_nonneg (fun _ => by show (0 : Int) ≤ 1; omega) HA.out.2.2.2) (lft_pos HA.out.2.2.1 _))
  have HRe := Lh (show ∀ φ, R φ = tot (fun p => tot (fun q => φ (mx p q)) Lt) (lft (fun z => left z && !z.sameKey (.string x)) Ls) from fun φ => by rw [hR])
  have HIi := Lh (show ∀ φ, tot φ Lo + c * tot (fun q => φ (mx x q)) (lft (Maps.has (mapD (H := Unit) Lt)) Lt) + R φ = tot φ (timesL Ls Lt) from fun φ => by
   have h1 := HI.out φ
   have h2 := HN.out (fun p => tot (fun q => φ (mx p q)) Lt)
   rw [lft_all, hR, ← h1, h2, Int.add_assoc])
  have HCi := Lh (show nn + Maps.size (mapD (H := Unit) Lt) + cnt2 * Lt.length ≤ 800000 by
   have h1 := HC.out
   have h2 := HLt.out
   have h3 := Nat.mul_le_mul_right Lt.length (show cnt2 + 1 ≤ cnt by omega)
   rw [Nat.succ_mul] at h3
   rw [mapD_size]
   omega)
  have HPi := Lh HP.out
  clear hR HI HN HC HRg2 HO2 HG2 HT2 HG3 HP hr2
  go_loopw [8, 9, 10] (fun _ _ _ wr => ∃ (lf : Lit → Bool) (cn nn : Nat) (Lo : SL), Hid (wr.ranges (H := Unit) Tryz.prog 9 (plainElem (H := Unit) Tryz.prog 3) bt r2 nt (mapD Lt) lf cn) ∧ Hid (wr.ranges (H := Unit) Tryz.prog 9 (plainElem (H := Unit) Tryz.prog 3) bs r1 ns (mapD Ls) (fun z => left z && !z.sameKey (.string x)) cnt2) ∧ Hid (OwL wr mo nn Lo) ∧ Hid (nn + cn + cnt2 * Lt.length ≤ 800000) ∧ Hid (Srt Lo ∧ Pos Lo) ∧ Hid (∀ φ, tot φ Lo + c * tot (fun q => φ (mx x q)) (lft lf Lt) + R φ = tot φ (timesL Ls Lt)) ∧ Hid (Gr w wr) ∧ Hid (r2 < wr.heap.size))
   (fun _ _ _ wr => wr.rangeLeft bt r2)
  case atStart => exact ⟨_, _, nn, Lo, HRi, HRo, HOo, HCi, HPi, HIi, HGo, HZ2⟩
  case round =>
   clear HRi HRo HOo HCi HPi HIi HGo HZ2
   obtain ⟨lf, cn, nn, Lo, HRi, HRo, HO, HC, HP, HI, HG, HZ2⟩ := hrel
   go_wp2_with (first
    | (at_next; refine wpList_next_ranges _ rfl _ rfl 9 law9 (plainElem (H := Unit) Tryz.prog 3) Go.Proofs.encStr (Value.int .i64) (fun key kl hk => by obtain ⟨x, hx, _⟩ := Maps.keyOf_str Tryz.underlying9 hk; exact ⟨x, hx⟩) (fun v y hv => by obtain ⟨c, rfl, _⟩ := plainElem_int_inv Tryz.underlying3 hv; exact ⟨c, rfl⟩) bt r2 nt _ _ _ rfl HRi.out ?_ ?_)
    | go_in)
   ·intro _ hl0
    have HI2 := Lh (show ∀ φ, tot φ Lo + tot (fun p => tot (fun q => φ (mx p q)) Lt) (lft (fun z => left z && !z.sameKey (.string x)) Ls) = tot φ (timesL Ls Lt) from fun φ => by have := HI.out φ; rw [lft_none hl0, HRe.out] at this; simpa [tot] using this)
    have HC2 := Lh (show nn + cnt2 * Lt.length ≤ 800000 by have := HC.out; omega)
    clear hl0 HI HC HRi HRe
    go_wp2
    go_roundw
    case rel => exact ⟨_, cnt2, nn, Lo, HRo, HO, HC2, HP, HI2, HG⟩
    case measure => rw [HRo.out.left_eq, HOld.out.left_eq]; exact HLt.out
   intro y m kl yd yp w4 cn2 hkey hlk hv hat hrg2 hlt hg2 hs2 hen
   obtain ⟨rfl, hlx, hmem⟩ := entry_of hkey hlk hv hat HA.out.2.1
   have HS := Lh (times_step (T := fun φ => tot φ (timesL Ls Lt)) HP.out HA.out.2.1 HA.out.2.2.2 HI.out HB.out HRp.out HV.out.1 hlx hmem)
   have HRi4 := Lh hrg2
   have HLt4 := Lh hlt
   have HG4 := Lh (show Gr w w4 from HG.out.grown hg2 (fun k hk => by cases hk; exact HR2.out.2.2.2.2))
   have HO4 := Lh (show OwL w4 mo nn Lo from World.ownsMap.kept HO.out hg2 (by have := HR2.out; simp; omega))
   have HRo4 := Lh (HRo.out.kept hg2 (by have := HR2.out; simp; omega) (by have := HR2.out; simp; omega))
   have HZ4 := Lh (show r2 < w4.heap.size by have := HZ2.out; omega)
   obtain ⟨sy0, hsy⟩ : ∃ sy0 : ByteArray, Go.Proofs.encStr y = .string sy0 ∧ sy0.data.toList = y := ⟨⟨y.toArray⟩, rfl, rfl⟩
   rw [hsy.1] at hen
   rw [hsy.1]
   obtain ⟨sxy, hadd, hxy, hsz, hszb⟩ := add_two HSx.out hsy.2 HZx.out (HZ.out.2 _ hmem)
   obtain ⟨b, cp, W1, hcv, hg1, hb0, hb1, hrow⟩ := conv_row sxy w4
   rw [hxy] at hrow
   have C47 := Lh (sortK b cp sxy.size (x ++ y) W1 hsz.symm (by omega) hrow hb1)
   have HO5 := Lh (HO4.out.gr hg1)
   have HRi5 := Lh (HRi4.out.kept (row := none) ⟨hg1.os, hg1.tape, hg1.output, Gr.size hg1, fun k hk _ => Below.block hg1 k hk⟩ (by simp) (by simp))
   have HRo5 := Lh (HRo4.out.kept (row := none) ⟨hg1.os, hg1.tape, hg1.output, Gr.size hg1, fun k hk _ => Below.block hg1 k hk⟩ (by simp) (by simp))
   have HG5 := Lh (HG4.out.trans hg1)
   have HZ5 := Lh (show r2 < W1.heap.size ∧ r2 < b by have := HZ4.out; have := hg1.size; omega)
   have HL := Lh (show (mx x y).length = sxy.size by rw [hsz]; exact (mx_perm x y).length_eq)
   have HC2 := Lh (show nn + 1 + cn2 + cnt2 * Lt.length ≤ 800000 by have := HC.out; have := HLt4.out; omega)
   have HN1 := Lh (show nn < maxLen by have := HC2.out; unfold maxLen; omega)
   have HZb := Lh (show (mx x y).length ≤ maxLen by rw [HL.out]; unfold maxLen; omega)
   have HOld2 := HRi
   obtain ⟨smx, hsmx⟩ : ∃ smx : ByteArray, (⟨(mx x y).toArray⟩ : ByteArray) = smx := ⟨_, rfl⟩
   have HKx := Lh (show keyOf Tryz.prog 9 (.string smx) = some (.string (mx x y)) by rw [← hsmx]; exact keyOf_string_mk Tryz.underlying9 (key_len (by show (mx x y).toArray.size ≤ _; have := HZb.out; unfold maxLen at this; simp; omega)))
   obtain ⟨cm, hcm⟩ : ∃ cm, c * m = cm := ⟨_, rfl⟩
   have HWf := Lh (fun (v : Int) (h0 : 0 ≤ v) (h1 : v + cm ≤ 4000000000000000000) => show (Lit.int .i64 (v + cm)).wf = true from wf_of (by have := HS.out.1; omega) (by omega))
   have HSm := Lh hsmx
   have e0 : IntKind.i64.wrap (c * m) = cm := by rw [hcm]; exact IntWalk.i64_in _ (by have := HS.out.1; omega)
   clear hrg2 hlt hg2 hs2 hv hat hlk hkey hmem hlx hsy HRi HRo HO HC HP HI HG HZ2 HRi4 HRo4 HO4 HG4 HZ4 hg1 hb0 hb1 hrow hxy hsz hszb hsmx HZb
   obtain ⟨L2, hL2⟩ : ∃ L2, putL (mx x y) cm Lo = L2 := ⟨_, rfl⟩
   replace HS := Lh (by have := HS.out; rw [hcm, hL2] at this; exact this)
   clear hL2 hcm
   go_wp2_with (first
    | (go_at_call 143; refine C47.out.mono ?_; rintro e W2 ⟨rfl, h1, h2⟩; have hbk := backK (cp := cp) HL.out h2; rw [show (⟨(mx x y).toArray⟩ : ByteArray) = smx from HSm.out] at hbk; have HO6 := Lh (HO5.out.wr h1 (by have := HZ5.out; have := HR2.out; omega)); have HRi6 := Lh (HRi5.out.kept h1 (by have := HZ5.out; have := HR2.out; simp; omega) (by have := HZ5.out; simp; omega)); have HRo6 := Lh (HRo5.out.kept h1 (by have := HZ5.out; have := HR2.out; simp; omega) (by have := HZ5.out; have := HR2.out; simp; omega)); have HG6 := Lh (HG5.out.grown h1 (fun k hk => by cases hk; have := HZ5.out; have := HR2.out; omega)); have HZ6 := Lh (show r2 < W2.heap.size by have := HZ5.out; have := h1.size; omega); clear h1 h2)
    | (at_lookup; refine wpList_lookup_own_int _ rfl _ _ 113 rfl 9 3 .i64 law9 Tryz.underlying113 Tryz.underlying3 (zero3 _) mo nn _ rfl HO6.out _ _ rfl HKx.out ?_; intro v hv hwv; have HVv := Lh (HS.out.2.2.2 v hv); have e1 : IntKind.i64.wrap (v + cm) = v + cm := IntWalk.i64_in _ (by have := HVv.out.1; have := HS.out.1; omega); clear hv hwv)
    | (at_mapUpdate; refine wpList_mapUpdate_own _ rfl _ _ _ 113 rfl 9 3 law9 Tryz.underlying113 _ mo nn _ rfl HO6.out HN1.out _ _ _ rfl rfl HKx.out _ [] (plainElem_int Tryz.underlying3 (HWf.out v HVv.out.1.1 HVv.out.1.2)) ?_; intro w5 hown hgrow; have HO7 := Lh (show OwL w5 mo (nn + 1) L2 by rw [HVv.out.2] at hown; exact hown); have HG7 := Lh (HG6.out.grown hgrow (fun k hk => by cases hk; exact HR0.out.2.1)); have HRi7 := Lh (HRi6.out.kept hgrow (by have := HR0.out; simp; omega) (by have := HR2.out; simp; omega)); have HRo7 := Lh (HRo6.out.kept hgrow (by have := HR0.out; simp; omega) (by have := HR0.out; simp; omega)); have HZ7 := Lh (show r2 < w5.heap.size by have := HZ6.out; have := hgrow.size; omega); clear hown hgrow e1)
    | go_in)
   go_roundw
   case rel => exact ⟨_, _, _, _, _, _, _, _, _, _, _, _, _, _, _, _, _, _, _, _, _, _, ⟨_, cn2, nn + 1, L2, HRi7, HRo7, HO7, HC2, HS.out.2.1, HS.out.2.2.1, HG7, HZ7⟩, rfl⟩
   case measure => rw [HRi7.out.left_eq, HOld2.out.left_eq]; exact HLt4.out
end Go.Proofs.YtehdemcfeoiecaaGreatDoor
