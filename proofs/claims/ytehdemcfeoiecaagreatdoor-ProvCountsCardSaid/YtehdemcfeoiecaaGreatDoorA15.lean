import Derived.Test.YtehdemcfeoiecaaGreatDoorA08
set_option maxHeartbeats 64000000
set_option maxRecDepth 100000
namespace Go.Proofs.YtehdemcfeoiecaaGreatDoor
open Go.RowKit Go.Firn Go.Firn.Tb
def rwd : Wd → Tri
 | .put i => (1, i, 0)
 | .orr => (2, 0, 0)
 | .byy => (3, 0, 0)
 | .drop k => (4, k, 0)
 | .pick k m => (5, k, m)
 | .same k m => (6, k, m)
def okP (n : Nat) : Wd → Bool
 | .put i => decide (i < n)
 | _ => true
def RetRw (n : Nat) (x : Key) (w : World) (e : Ending) (w' : World) : Prop := ∃ a b c ok, e = .returned (.tuple #[.agg #[.int .i64 a, .int .i64 b, .int .i64 c], .bool ok]) ∧ Gr w w' ∧ (match wdOf x with
 | some wd => ok = okP n wd ∧ (a, b, c) = rwd wd
 | none => ok = false)
theorem wd_shape {x : Key} {wd : Wd} (h : wdOf x = some wd) : x.length = 1 ∨ x = [111, 114] ∨ x = [98, 121] ∨ (x.take 4 = dropK ∧ x.length = 5) ∨ (x.take 4 = sameK ∧ x.length = 6) ∨ (x.take 4 = pickK ∧ 7 ≤ x.length ∧ x.length ≤ 10 ∧ x[5]? = some 61) := by
 have big : ∀ {K : Key}, K.length = 4 → x.take 4 = K → x.length = 4 + (x.drop 4).length := by
  intro K hK e
  have := congrArg List.length e
  rw [List.length_take, hK] at this
  rw [List.length_drop]
  omega
 unfold wdOf at h
 split at h
 ·subst_vars; exact .inl rfl
 split at h
 ·subst_vars; exact .inl rfl
 split at h
 ·subst_vars; exact .inl rfl
 split at h
 ·subst_vars; exact .inl rfl
 split at h
 ·exact .inr (.inl ‹_›)
 split at h
 ·exact .inr (.inr (.inl ‹_›))
 split at h
 ·rename_i e
  have := big (by rfl) e
  refine .inr (.inr (.inr (.inl ⟨e, ?_⟩)))
  unfold wdDrop at h
  split at h
  ·rename_i d hd; rw [hd] at this; exact this
  cases h
 split at h
 ·rename_i e
  have := big (by rfl) e
  refine .inr (.inr (.inr (.inr (.inl ⟨e, ?_⟩))))
  unfold wdSame at h
  split at h
  ·rename_i d hd; rw [hd] at this; exact this
  cases h
 split at h
 ·rename_i e
  have hb := big (by rfl) e
  refine .inr (.inr (.inr (.inr (.inr ⟨e, ?_⟩))))
  unfold wdPick at h
  split at h
  ·rename_i d c r hd
   rw [hd] at hb
   split at h
   ·rename_i hc
    cases hn : numO r with
    | none => rw [hn] at h; cases h
    | some n =>
     have := num_len hn
     refine ⟨by simp at hb; omega, by simp at hb; omega, ?_⟩
     have e5 : (x.drop 4)[1]? = some c := by rw [hd]; rfl
     rw [List.getElem?_drop] at e5
     rw [e5]
     simp at hc
     rw [hc.2]
   cases h
  cases h
 cases h
theorem digit147 (d : UInt8) (w : World) : Calls Tryz.prog 147 #[.int .u8 (d.toNat : Nat)] w fun e w' => e = .returned (.tuple #[.int .i64 ((d.toNat : Int) - 48), .bool (isDg d)]) ∧ w' = w := by
 have hd := d.toNat_lt
 have w1 : IntKind.i64.wrap (d.toNat : Int) = (d.toNat : Int) := IntWalk.i64_in _ (by omega)
 have w2 : IntKind.i64.wrap ((d.toNat : Int) - 48) = (d.toNat : Int) - 48 := IntWalk.i64_in _ (by omega)
 have w3 : wrap64 (d.toNat : Int) = (d.toNat : Int) := IntWalk.wrap64_in _ (by omega)
 have w4 : wrap64 ((d.toNat : Int) - 48) = (d.toNat : Int) - 48 := IntWalk.wrap64_in _ (by omega)
 by_cases h1 : 48 ≤ d.toNat
 ·have k1 : 48 ≤ (d.toNat : Int) := by omega
  have k2 : decide (48 ≤ (d.toNat : Int)) = true := decide_eq_true k1
  by_cases h2 : d.toNat ≤ 57
  ·have E : isDg d = true := by unfold isDg; simp; omega
   have k3 : (d.toNat : Int) ≤ 57 := by omega
   have k4 : decide ((d.toNat : Int) ≤ 57) = true := decide_eq_true k3
   rw [E]
   clear h1 h2 hd E
   generalize (d.toNat : Int) = q at *
   generalize hq1 : q - 48 = q1 at *
   go_enter Tryz.func147, Tryz.ntmps147
   go_wp2_with fail
   refine bodyPost_ret (v := .tuple #[.int .i64 q1, .bool true]) (by simp [results, Tryz.results147, go_sem]; try rfl) rfl ?_
   exact ⟨rfl, rfl⟩
  have E : isDg d = false := by unfold isDg; simp; omega
  have k3 : ¬ (d.toNat : Int) ≤ 57 := by omega
  have k4 : decide ((d.toNat : Int) ≤ 57) = false := decide_eq_false k3
  rw [E]
  clear h1 h2 hd E
  generalize (d.toNat : Int) = q at *
  generalize hq1 : q - 48 = q1 at *
  go_enter Tryz.func147, Tryz.ntmps147
  go_wp2_with fail
  refine bodyPost_ret (v := .tuple #[.int .i64 q1, .bool false]) (by simp [results, Tryz.results147, go_sem]; try rfl) rfl ?_
  exact ⟨rfl, rfl⟩
 have E : isDg d = false := by unfold isDg; simp; omega
 have k1 : ¬ 48 ≤ (d.toNat : Int) := by omega
 have k2 : decide (48 ≤ (d.toNat : Int)) = false := decide_eq_false k1
 rw [E]
 clear h1 hd E
 generalize (d.toNat : Int) = q at *
 generalize hq1 : q - 48 = q1 at *
 go_enter Tryz.func147, Tryz.ntmps147
 go_wp2_with fail
 refine bodyPost_ret (v := .tuple #[.int .i64 q1, .bool false]) (by simp [results, Tryz.results147, go_sem]; try rfl) rfl ?_
 exact ⟨rfl, rfl⟩
theorem decimal_itoa (n : Int) (h0 : -1000000 ≤ n) (h1 : n ≤ 1000000) (w : World) : Calls Tryz.prog 148 #[.int .i64 n] w (RetT (bA (Lib.itoa n)) w) := by
 by_cases hn : n < 0
 ·have C := Lh (fun w => decimal_any n.natAbs (by omega) w)
  have e1 : ((n.natAbs : Nat) : Int) = -n := by omega
  have w1 : IntKind.i64.wrap (-n) = -n := IntWalk.i64_in _ (by omega)
  have w2 : wrap64 (-n) = -n := IntWalk.wrap64_in _ (by omega)
  have HE := Lh (show bA [45] ++ bA (Lib.decDigits n.natAbs) = bA (Lib.itoa n) by
   rw [bA_append]; unfold Lib.itoa; rw [if_pos hn]; rfl)
  have hs : (bA [45]).size + (bA (Lib.decDigits n.natAbs)).size ≤ 9223372036854775807 := by
   rw [bA_size, bA_size]
   have := dec_len (n := n.natAbs) (by omega)
   simp; omega
  have hs2 : 1 + (bA (Lib.decDigits n.natAbs)).size ≤ 9223372036854775807 := hs
  rw [e1] at C
  generalize bA (Lib.decDigits n.natAbs) = tp at *
  generalize bA (Lib.itoa n) = tn at *
  have HE2 := Lh (show (⟨#[45]⟩ : ByteArray) ++ tp = tn from HE.out)
  clear HE h0 h1 e1
  generalize hm : -n = m at *
  have hs3 : (⟨#[45]⟩ : ByteArray).size + tp.size ≤ 9223372036854775807 := hs
  clear hs
  go_enter Tryz.func148, Tryz.ntmps148
  go_wp2_with (go_at_call 148; (with_reducible refine (C.out _).mono ?_); rintro e wa ⟨rfl, g1⟩; have G1 := Lh g1; clear g1 C)
  go_ret
  refine ⟨?_, G1.out⟩
  first | rfl | (rw [← HE2.out]; rfl)
 obtain ⟨k, rfl⟩ : ∃ k : Nat, n = k := ⟨n.toNat, by omega⟩
 have e : Lib.itoa (k : Int) = Lib.decDigits k := by unfold Lib.itoa; rw [if_neg hn]; rfl
 rw [e]
 exact decimal_any k (by omega) w
theorem dgv_eq {d : UInt8} (h : isDg d = true) : (dgv d : Int) = (d.toNat : Int) - 48 := by
 unfold isDg at h
 simp at h
 unfold dgv
 omega
theorem foldR_cons (b : UInt8) (l : Key) (n : Int) : foldR (b :: l) n = foldR l (10 * n + ((b.toNat : Int) - 48)) := rfl
theorem foldR_bd : ∀ (l : Key) (n B : Int), -B ≤ n → n ≤ B → -(10 ^ l.length * (B + 23)) ≤ foldR l n ∧ foldR l n ≤ 10 ^ l.length * (B + 23)
 | [], n, B, h1, h2 => by
  simp only [foldR, List.foldl_nil, List.length_nil, Int.pow_zero]
  omega
 | b :: r, n, B, h1, h2 => by
  rw [foldR_cons]
  have hb := b.toNat_lt
  have := foldR_bd r (10 * n + ((b.toNat : Int) - 48)) (10 * B + 207) (by omega) (by omega)
  rw [List.length_cons, Int.pow_succ, Int.mul_assoc]
  rwa [show (10 : Int) * (B + 23) = 10 * B + 207 + 23 by omega]
theorem foldR_4 {l : Key} (h : l.length ≤ 4) : -230000 ≤ foldR l 0 ∧ foldR l 0 ≤ 230000 := by
 have := foldR_bd l 0 0 (by omega) (by omega)
 have h10 : (10 : Int) ^ l.length ≤ 10000 := by
  rcases Nat.lt_or_ge l.length 1 with h | h
  ·rw [show l.length = 0 by omega]; decide
  rcases Nat.lt_or_ge l.length 2 with h | h
  ·rw [show l.length = 1 by omega]; decide
  rcases Nat.lt_or_ge l.length 3 with h | h
  ·rw [show l.length = 2 by omega]; decide
  rcases Nat.lt_or_ge l.length 4 with h | h
  ·rw [show l.length = 3 by omega]; decide
  rw [show l.length = 4 by omega]; decide
 have e : (10 : Int) ^ l.length * (0 + 23) ≤ 230000 := by omega
 omega
theorem idx_bA {x : Key} {i : Nat} {c : UInt8} (h : x[i]? = some c) (j : Int) (hj : j = (i : Int)) : ∀ w, (Instr.index 9 (.string (bA x)) (.int .i64 j)).run Tryz.prog w = .ok (.int .u8 (c.toNat : Nat)) w := fun w => by
 subst hj
 obtain ⟨hl, e⟩ := List.getElem?_eq_some_iff.1 h
 have := bt_look (P := Tryz.prog) (t := 9) Tryz.underlying9 (s := bA x) (i := i) (by rw [bA_size]; exact hl) w
 have hb : bt (bA x) i = c.toNat := by
  unfold bt
  have hs : i < (bA x).size := by rw [bA_size]; exact hl
  first
  | (rw [dif_pos hs]; show (x.toArray[i]).toNat = _; rw [← e]; simp)
  | (simp [bA, ← e, List.getElem?_eq_getElem hl])
 rw [hb] at this
 exact this
theorem cmp_no {x K : Key} (h : x ≠ K) : ((bA x).toList == K) = false := ne_text h
theorem cmp_yes {x K : Key} (h : x = K) : ((bA x).toList == K) = true := by
 rw [ByteArray.toList_eq]
 simpa [bA] using h
theorem ext4 (x : Key) : (bA x).extract 0 4 = bA (x.take 4) := by rw [ext_key']; rfl
theorem ext6 (x : Key) : (bA x).extract 6 x.length = bA (x.drop 6) := by
 rw [ext_key', List.take_of_length_le (by rw [List.length_drop]; exact Nat.le_refl _)]
theorem read_or (n : Nat) (w : World) : Calls Tryz.prog 115 #[.string ⟨#[111, 114]⟩, .int .i64 n] w (RetRw n [111, 114] w) := by
 go_enter Tryz.func115, Tryz.ntmps115
 go_wp2_with fail
 refine bodyPost_ret (v := .tuple #[.agg #[.int .i64 2, .int .i64 0, .int .i64 0], .bool true]) (by simp [results, Tryz.results115, go_sem]; try rfl) rfl ?_
 exact ⟨2, 0, 0, true, rfl, (Gr.refl w).alloc _, rfl, rfl⟩
theorem read_by (n : Nat) (w : World) : Calls Tryz.prog 115 #[.string ⟨#[98, 121]⟩, .int .i64 n] w (RetRw n [98, 121] w) := by
 go_enter Tryz.func115, Tryz.ntmps115
 go_wp2_with fail
 refine bodyPost_ret (v := .tuple #[.agg #[.int .i64 3, .int .i64 0, .int .i64 0], .bool true]) (by simp [results, Tryz.results115, go_sem]; try rfl) rfl ?_
 exact ⟨3, 0, 0, true, rfl, (Gr.refl w).alloc _, rfl, rfl⟩
theorem read_one (c : UInt8) (n : Nat) (hn : n ≤ 4) (w : World) : Calls Tryz.prog 115 #[.string (bA [c]), .int .i64 n] w (RetRw n [c] w) := by
 have t5 := cmp_no (x := [c]) (K := [111, 114]) (by simp)
 have t6 := cmp_no (x := [c]) (K := [98, 121]) (by simp)
 have s1 : (bA [c]).size = 1 := rfl
 have hi := idx_bA (x := [c]) (i := 0) (c := c) rfl 0 rfl
 have hc := c.toNat_lt
 have hq : ((c.toNat : Int) - 65) = (c.toNat : Int) - 65 := rfl
 have w1 : IntKind.i64.wrap (c.toNat : Int) = (c.toNat : Int) := IntWalk.i64_in _ (by omega)
 have w2 : IntKind.i64.wrap ((c.toNat : Int) - 65) = (c.toNat : Int) - 65 := IntWalk.i64_in _ (by omega)
 have w3 : wrap64 (c.toNat : Int) = (c.toNat : Int) := IntWalk.wrap64_in _ (by omega)
 have w4 : wrap64 ((c.toNat : Int) - 65) = (c.toNat : Int) - 65 := IntWalk.wrap64_in _ (by omega)
 have HN := Lh hn
 have HW := Lh (show (match wdOf [c] with
   | some wd => (decide (0 ≤ (c.toNat : Int) - 65) && decide ((c.toNat : Int) - 65 < (n : Int))) = okP n wd ∧ ((1 : Int), (c.toNat : Int) - 65, (0 : Int)) = rwd wd
   | none => (decide (0 ≤ (c.toNat : Int) - 65) && decide ((c.toNat : Int) - 65 < (n : Int))) = false) by
  have key : ∀ k : Nat, c = UInt8.ofNat (65 + k) → k ≤ 3 → (decide (0 ≤ (c.toNat : Int) - 65) && decide ((c.toNat : Int) - 65 < (n : Int))) = okP n (.put k) ∧ ((1 : Int), (c.toNat : Int) - 65, (0 : Int)) = rwd (.put k) := by
   intro k hk hk3
   have e : c.toNat = 65 + k := by rw [hk]; simp; omega
   refine ⟨?_, ?_⟩
   ·unfold okP
    rw [e, decide_eq_true (by omega : 0 ≤ ((65 + k : Nat) : Int) - 65), Bool.true_and]
    simp only [decide_eq_decide]
    omega
   unfold rwd
   rw [e]
   simp
   omega
  by_cases h0 : c = 65
  ·exact (show wdOf [c] = some (.put 0) by rw [h0]; rfl) ▸ key 0 h0 (by omega)
  by_cases h1 : c = 66
  ·exact (show wdOf [c] = some (.put 1) by rw [h1]; rfl) ▸ key 1 h1 (by omega)
  by_cases h2 : c = 67
  ·exact (show wdOf [c] = some (.put 2) by rw [h2]; rfl) ▸ key 2 h2 (by omega)
  by_cases h3 : c = 68
  ·exact (show wdOf [c] = some (.put 3) by rw [h3]; rfl) ▸ key 3 h3 (by omega)
  have e : wdOf [c] = none := by
   unfold wdOf
   rw [if_neg (by simpa using h0), if_neg (by simpa using h1), if_neg (by simpa using h2), if_neg (by simpa using h3), if_neg (by simp), if_neg (by simp), if_neg (by simp [dropK]), if_neg (by simp [sameK]), if_neg (by simp [pickK])]
  rw [e]
  show _ = false
  have hne : ∀ k : Nat, k ≤ 3 → c ≠ UInt8.ofNat (65 + k) → c.toNat ≠ 65 + k := fun k hk h e => h (UInt8.toNat_inj.1 (by rw [e]; simp; omega))
  have a0 := hne 0 (by omega) h0
  have a1 := hne 1 (by omega) h1
  have a2 := hne 2 (by omega) h2
  have a3 := hne 3 (by omega) h3
  rcases Nat.lt_or_ge c.toNat 65 with h | h
  ·rw [decide_eq_false (by omega)]; rfl
  rw [decide_eq_false (by omega : ¬ (c.toNat : Int) - 65 < (n : Int)), Bool.and_false])
 clear hn hc hq
 generalize bA [c] = s at *
 generalize hq : (c.toNat : Int) - 65 = q at *
 generalize (c.toNat : Int) = d at *
 by_cases h0 : 0 ≤ q
 ·have z0 : decide (0 ≤ q) = true := decide_eq_true h0
  go_enter Tryz.func115, Tryz.ntmps115
  go_wp2_with fail
  refine bodyPost_ret (v := .tuple #[.agg #[.int .i64 1, .int .i64 q, .int .i64 0], .bool (decide (q < n))]) (by simp [results, Tryz.results115, go_sem]; try rfl) rfl ?_
  refine ⟨1, q, 0, _, rfl, ?_, ?_⟩
  ·first | exact (Gr.refl w).alloc _ | exact Gr.setAt (Gr.setAt (Gr.setAt ((Gr.refl w).alloc _) (Nat.le_refl _) _) (Nat.le_refl _) _) (Nat.le_refl _) _
  have := HW.out
  rw [z0, Bool.true_and] at this
  exact this
 have z0 : decide (0 ≤ q) = false := decide_eq_false h0
 go_enter Tryz.func115, Tryz.ntmps115
 go_wp2_with fail
 refine bodyPost_ret (v := .tuple #[.agg #[.int .i64 1, .int .i64 q, .int .i64 0], .bool false]) (by simp [results, Tryz.results115, go_sem]; try rfl) rfl ?_
 refine ⟨1, q, 0, _, rfl, ?_, ?_⟩
 ·first | exact (Gr.refl w).alloc _ | exact Gr.setAt (Gr.setAt (Gr.setAt ((Gr.refl w).alloc _) (Nat.le_refl _) _) (Nat.le_refl _) _) (Nat.le_refl _) _
 have := HW.out
 rw [z0, Bool.false_and] at this
 exact this
theorem read_short (x : Key) (n : Nat) (w : World) (h5 : x ≠ [111, 114]) (h6 : x ≠ [98, 121]) (hl : x.length < 7) (n1 : x.length ≠ 1) (n5 : x.length ≠ 5) (n6 : x.length ≠ 6) (hwd : wdOf x = none) : Calls Tryz.prog 115 #[.string (bA x), .int .i64 n] w (RetRw n x w) := by
 have t5 := cmp_no (x := x) (K := [111, 114]) h5
 have t6 := cmp_no (x := x) (K := [98, 121]) h6
 have z1 : (((bA x).size : Int) == 1) = false := by rw [bA_size]; simp; omega
 have y1 : ((bA x).size == 1) = false := by rw [bA_size]; simp; omega
 have z5 : (((bA x).size : Int) == 5) = false := by rw [bA_size]; simp; omega
 have y5 : ((bA x).size == 5) = false := by rw [bA_size]; simp; omega
 have z6 : (((bA x).size : Int) == 6) = false := by rw [bA_size]; simp; omega
 have y6 : ((bA x).size == 6) = false := by rw [bA_size]; simp; omega
 have q1 : ¬ (7 : Int) ≤ ((bA x).size : Int) := by rw [bA_size]; omega
 have q2 : decide ((7 : Int) ≤ ((bA x).size : Int)) = false := decide_eq_false q1
 have q3 : decide (7 ≤ (bA x).size) = false := decide_eq_false (by rw [bA_size]; omega)
 clear hl n1 n5 n6
 have HW := Lh hwd
 clear hwd h5 h6
 generalize bA x = s at *
 go_enter Tryz.func115, Tryz.ntmps115
 go_wp2_with fail
 refine bodyPost_ret (v := .tuple #[.agg #[.int .i64 0, .int .i64 0, .int .i64 0], .bool false]) (by simp [results, Tryz.results115, go_sem]; try rfl) rfl ?_
 refine ⟨0, 0, 0, false, rfl, ?_, by rw [HW.out]⟩
 first
 | exact Gr.setAt (Gr.setAt (Gr.setAt ((Gr.refl w).alloc _) (Nat.le_refl _) _) (Nat.le_refl _) _) (Nat.le_refl _) _
 | exact (Gr.refl w).alloc _
theorem read_five (x : Key) (n : Nat) (w : World) (h5 : x ≠ [111, 114]) (h6 : x ≠ [98, 121]) (hl : x.length = 5) (ht : x.take 4 ≠ dropK) (hwd : wdOf x = none) : Calls Tryz.prog 115 #[.string (bA x), .int .i64 n] w (RetRw n x w) := by
 have t5 := cmp_no (x := x) (K := [111, 114]) h5
 have t6 := cmp_no (x := x) (K := [98, 121]) h6
 have s1 : (bA x).size = 5 := by rw [bA_size]; exact hl
 have p0 : (((bA x).extract 0 4).toList == [100, 114, 111, 112]) = false := by rw [ext4]; exact cmp_no ht
 clear hl ht
 have HW := Lh hwd
 clear hwd h5 h6
 generalize bA x = s at *
 go_enter Tryz.func115, Tryz.ntmps115
 go_wp2_with fail
 refine bodyPost_ret (v := .tuple #[.agg #[.int .i64 0, .int .i64 0, .int .i64 0], .bool false]) (by simp [results, Tryz.results115, go_sem]; try rfl) rfl ?_
 refine ⟨0, 0, 0, false, rfl, ?_, by rw [HW.out]⟩
 first
 | exact Gr.setAt (Gr.setAt (Gr.setAt ((Gr.refl w).alloc _) (Nat.le_refl _) _) (Nat.le_refl _) _) (Nat.le_refl _) _
 | exact (Gr.refl w).alloc _
theorem read_six (x : Key) (n : Nat) (w : World) (h5 : x ≠ [111, 114]) (h6 : x ≠ [98, 121]) (hl : x.length = 6) (ht : x.take 4 ≠ sameK) (hwd : wdOf x = none) : Calls Tryz.prog 115 #[.string (bA x), .int .i64 n] w (RetRw n x w) := by
 have t5 := cmp_no (x := x) (K := [111, 114]) h5
 have t6 := cmp_no (x := x) (K := [98, 121]) h6
 have s1 : (bA x).size = 6 := by rw [bA_size]; exact hl
 have p0 : (((bA x).extract 0 4).toList == [115, 97, 109, 101]) = false := by rw [ext4]; exact cmp_no ht
 clear hl ht
 have HW := Lh hwd
 clear hwd h5 h6
 generalize bA x = s at *
 go_enter Tryz.func115, Tryz.ntmps115
 go_wp2_with fail
 refine bodyPost_ret (v := .tuple #[.agg #[.int .i64 0, .int .i64 0, .int .i64 0], .bool false]) (by simp [results, Tryz.results115, go_sem]; try rfl) rfl ?_
 refine ⟨0, 0, 0, false, rfl, ?_, by rw [HW.out]⟩
 first
 | exact Gr.setAt (Gr.setAt (Gr.setAt ((Gr.refl w).alloc _) (Nat.le_refl _) _) (Nat.le_refl _) _) (Nat.le_refl _) _
 | exact (Gr.refl w).alloc _
theorem read_long (x : Key) (n : Nat) (w : World) (h5 : x ≠ [111, 114]) (h6 : x ≠ [98, 121]) (hl : 10 < x.length) (hwd : wdOf x = none) : Calls Tryz.prog 115 #[.string (bA x), .int .i64 n] w (RetRw n x w) := by
 have t5 := cmp_no (x := x) (K := [111, 114]) h5
 have t6 := cmp_no (x := x) (K := [98, 121]) h6
 have z1 : (((bA x).size : Int) == 1) = false := by rw [bA_size]; simp; omega
 have y1 : ((bA x).size == 1) = false := by rw [bA_size]; simp; omega
 have z5 : (((bA x).size : Int) == 5) = false := by rw [bA_size]; simp; omega
 have y5 : ((bA x).size == 5) = false := by rw [bA_size]; simp; omega
 have z6 : (((bA x).size : Int) == 6) = false := by rw [bA_size]; simp; omega
 have y6 : ((bA x).size == 6) = false := by rw [bA_size]; simp; omega
 have q1 : (7 : Int) ≤ ((bA x).size : Int) := by rw [bA_size]; omega
 have q2 : decide ((7 : Int) ≤ ((bA x).size : Int)) = true := decide_eq_true q1
 have q3 : decide (7 ≤ (bA x).size) = true := decide_eq_true (by rw [bA_size]; omega)
 have q4 : ¬ ((bA x).size : Int) ≤ 10 := by rw [bA_size]; omega
 have q5 : decide (((bA x).size : Int) ≤ 10) = false := decide_eq_false q4
 have q6 : decide ((bA x).size ≤ 10) = false := decide_eq_false (by rw [bA_size]; omega)
 clear hl
 have HW := Lh hwd
 clear hwd h5 h6
 generalize bA x = s at *
 go_enter Tryz.func115, Tryz.ntmps115
 go_wp2_with fail
 refine bodyPost_ret (v := .tuple #[.agg #[.int .i64 0, .int .i64 0, .int .i64 0], .bool false]) (by simp [results, Tryz.results115, go_sem]; try rfl) rfl ?_
 refine ⟨0, 0, 0, false, rfl, ?_, by rw [HW.out]⟩
 first
 | exact Gr.setAt (Gr.setAt (Gr.setAt ((Gr.refl w).alloc _) (Nat.le_refl _) _) (Nat.le_refl _) _) (Nat.le_refl _) _
 | exact (Gr.refl w).alloc _
theorem read_mid (x : Key) (n : Nat) (w : World) (h5 : x ≠ [111, 114]) (h6 : x ≠ [98, 121]) (hl : 7 ≤ x.length) (hl2 : x.length ≤ 10) (ht : x.take 4 ≠ pickK) (hwd : wdOf x = none) : Calls Tryz.prog 115 #[.string (bA x), .int .i64 n] w (RetRw n x w) := by
 have t5 := cmp_no (x := x) (K := [111, 114]) h5
 have t6 := cmp_no (x := x) (K := [98, 121]) h6
 have z1 : (((bA x).size : Int) == 1) = false := by rw [bA_size]; simp; omega
 have y1 : ((bA x).size == 1) = false := by rw [bA_size]; simp; omega
 have z5 : (((bA x).size : Int) == 5) = false := by rw [bA_size]; simp; omega
 have y5 : ((bA x).size == 5) = false := by rw [bA_size]; simp; omega
 have z6 : (((bA x).size : Int) == 6) = false := by rw [bA_size]; simp; omega
 have y6 : ((bA x).size == 6) = false := by rw [bA_size]; simp; omega
 have k0 : (4 : Int) ≤ ((bA x).size : Int) := by rw [bA_size]; omega
 have k1 : 4 ≤ (bA x).size := by rw [bA_size]; omega
 have q1 : (7 : Int) ≤ ((bA x).size : Int) := by rw [bA_size]; omega
 have q2 : decide ((7 : Int) ≤ ((bA x).size : Int)) = true := decide_eq_true q1
 have q3 : decide (7 ≤ (bA x).size) = true := decide_eq_true (by rw [bA_size]; omega)
 have q4 : ((bA x).size : Int) ≤ 10 := by rw [bA_size]; omega
 have q5 : decide (((bA x).size : Int) ≤ 10) = true := decide_eq_true q4
 have q6 : decide ((bA x).size ≤ 10) = true := decide_eq_true (by rw [bA_size]; omega)
 have p0 : (((bA x).extract 0 4).toList == [112, 105, 99, 107]) = false := by rw [ext4]; exact cmp_no ht
 clear hl hl2 ht
 have HW := Lh hwd
 clear hwd h5 h6
 generalize bA x = s at *
 go_enter Tryz.func115, Tryz.ntmps115
 go_wp2_with fail
 refine bodyPost_ret (v := .tuple #[.agg #[.int .i64 0, .int .i64 0, .int .i64 0], .bool false]) (by simp [results, Tryz.results115, go_sem]; try rfl) rfl ?_
 refine ⟨0, 0, 0, false, rfl, ?_, by rw [HW.out]⟩
 first
 | exact Gr.setAt (Gr.setAt (Gr.setAt ((Gr.refl w).alloc _) (Nat.le_refl _) _) (Nat.le_refl _) _) (Nat.le_refl _) _
 | exact (Gr.refl w).alloc _
theorem read_sign (x : Key) (n : Nat) (w : World) (h5 : x ≠ [111, 114]) (h6 : x ≠ [98, 121]) (hl : 7 ≤ x.length) (hl2 : x.length ≤ 10) (ht : x.take 4 = pickK) (c : UInt8) (hc : x[5]? = some c) (hne : c ≠ 61) (hwd : wdOf x = none) : Calls Tryz.prog 115 #[.string (bA x), .int .i64 n] w (RetRw n x w) := by
 have t5 := cmp_no (x := x) (K := [111, 114]) h5
 have t6 := cmp_no (x := x) (K := [98, 121]) h6
 have z1 : (((bA x).size : Int) == 1) = false := by rw [bA_size]; simp; omega
 have y1 : ((bA x).size == 1) = false := by rw [bA_size]; simp; omega
 have z5 : (((bA x).size : Int) == 5) = false := by rw [bA_size]; simp; omega
 have y5 : ((bA x).size == 5) = false := by rw [bA_size]; simp; omega
 have z6 : (((bA x).size : Int) == 6) = false := by rw [bA_size]; simp; omega
 have y6 : ((bA x).size == 6) = false := by rw [bA_size]; simp; omega
 have k0 : (4 : Int) ≤ ((bA x).size : Int) := by rw [bA_size]; omega
 have k1 : 4 ≤ (bA x).size := by rw [bA_size]; omega
 have q1 : (7 : Int) ≤ ((bA x).size : Int) := by rw [bA_size]; omega
 have q2 : decide ((7 : Int) ≤ ((bA x).size : Int)) = true := decide_eq_true q1
 have q3 : decide (7 ≤ (bA x).size) = true := decide_eq_true (by rw [bA_size]; omega)
 have q4 : ((bA x).size : Int) ≤ 10 := by rw [bA_size]; omega
 have q5 : decide (((bA x).size : Int) ≤ 10) = true := decide_eq_true q4
 have q6 : decide ((bA x).size ≤ 10) = true := decide_eq_true (by rw [bA_size]; omega)
 have p1 : (((bA x).extract 0 4).toList == [112, 105, 99, 107]) = true := by rw [ext4]; exact cmp_yes ht
 have hi := idx_bA hc 5 rfl
 have hb : (((c.toNat : Nat) : Int) == 61) = false := by
  have : c.toNat ≠ 61 := fun e => hne (UInt8.toNat_inj.1 e)
  simp; omega
 clear hl hl2 ht hc hne
 have HW := Lh hwd
 clear hwd h5 h6
 generalize bA x = s at *
 go_enter Tryz.func115, Tryz.ntmps115
 go_wp2_with fail
 refine bodyPost_ret (v := .tuple #[.agg #[.int .i64 0, .int .i64 0, .int .i64 0], .bool false]) (by simp [results, Tryz.results115, go_sem]; try rfl) rfl ?_
 refine ⟨0, 0, 0, false, rfl, ?_, by rw [HW.out]⟩
 first
 | exact Gr.setAt (Gr.setAt (Gr.setAt ((Gr.refl w).alloc _) (Nat.le_refl _) _) (Nat.le_refl _) _) (Nat.le_refl _) _
 | exact (Gr.refl w).alloc _
theorem four_of {x K : Key} (_ : K.length = 4) (h : x.take 4 = K) : x = K ++ x.drop 4 := by
 rw [← h, List.take_append_drop]
theorem wd_big {x K : Key} (hK : K.length = 4) (h1 : x.take 4 = K) : wdOf x = if x.take 4 = dropK then wdDrop (x.drop 4) else if x.take 4 = sameK then wdSame (x.drop 4) else if x.take 4 = pickK then wdPick (x.drop 4) else none := by
 have hl : 4 ≤ x.length := by
  have := congrArg List.length h1
  rw [List.length_take, hK] at this
  omega
 have ne : ∀ k : Key, k.length < 4 → x ≠ k := fun k hk e => by rw [e] at hl; omega
 unfold wdOf
 rw [if_neg (ne _ (by simp)), if_neg (ne _ (by simp)), if_neg (ne _ (by simp)), if_neg (ne _ (by simp)), if_neg (ne _ (by simp)), if_neg (ne _ (by simp))]
theorem wd_d4 (r : Key) : wdOf (dropK ++ r) = wdDrop r := by
 have h1 : (dropK ++ r).take 4 = dropK := List.take_left' rfl
 have h2 : (dropK ++ r).drop 4 = r := List.drop_left' rfl
 rw [wd_big (K := dropK) rfl h1, h1, h2, if_pos rfl]
theorem wd_s4 (r : Key) : wdOf (sameK ++ r) = wdSame r := by
 have h1 : (sameK ++ r).take 4 = sameK := List.take_left' rfl
 have h2 : (sameK ++ r).drop 4 = r := List.drop_left' rfl
 rw [wd_big (K := sameK) rfl h1, h1, h2, if_neg (by decide), if_pos rfl]
theorem wd_p4 (r : Key) : wdOf (pickK ++ r) = wdPick r := by
 have h1 : (pickK ++ r).take 4 = pickK := List.take_left' rfl
 have h2 : (pickK ++ r).drop 4 = r := List.drop_left' rfl
 rw [wd_big (K := pickK) rfl h1, h1, h2, if_neg (by decide), if_neg (by decide), if_pos rfl]
theorem read_drop (d : UInt8) (n : Nat) (w : World) : Calls Tryz.prog 115 #[.string (bA (dropK ++ [d])), .int .i64 n] w (RetRw n (dropK ++ [d]) w) := by
 have t5 := cmp_no (x := dropK ++ [d]) (K := [111, 114]) (by simp [dropK])
 have t6 := cmp_no (x := dropK ++ [d]) (K := [98, 121]) (by simp [dropK])
 have s1 : (bA (dropK ++ [d])).size = 5 := rfl
 have p1 : (((bA (dropK ++ [d])).extract 0 4).toList == [100, 114, 111, 112]) = true := by rw [ext4]; exact cmp_yes rfl
 have hi := idx_bA (x := dropK ++ [d]) (i := 4) (c := d) rfl 4 rfl
 have D := Lh (digit147 d)
 have HW := Lh (show (match wdOf (dropK ++ [d]) with
   | some wd => isDg d = okP n wd ∧ ((4 : Int), (d.toNat : Int) - 48, (0 : Int)) = rwd wd
   | none => isDg d = false) by
  rw [wd_d4]
  cases hd : isDg d with
  | true =>
   have e1 : wdDrop [d] = some (.drop (dgv d)) := by unfold wdDrop; simp only []; rw [if_pos hd]
   rw [e1]
   refine ⟨rfl, ?_⟩
   have := dgv_eq hd
   show _ = ((4 : Int), (dgv d : Int), (0 : Int))
   rw [this]
  | false =>
   have e1 : wdDrop [d] = none := by unfold wdDrop; simp only []; rw [if_neg (by rw [hd]; decide)]
   rw [e1])
 have G0 := Lh ((Gr.refl w).alloc (.cells #[.int .i64 0, .int .i64 0, .int .i64 0] 128))
 generalize bA (dropK ++ [d]) = s at *
 generalize (d.toNat : Int) - 48 = q at *
 generalize isDg d = ok at *
 generalize ((d.toNat : Nat) : Int) = dn at *
 go_enter Tryz.func115, Tryz.ntmps115
 go_wp2_with (go_at_call 147; (with_reducible refine (D.out _).mono ?_); rintro e w7 ⟨rfl, rfl⟩)
 refine bodyPost_ret (v := .tuple #[.agg #[.int .i64 4, .int .i64 q, .int .i64 0], .bool ok]) (by simp [results, Tryz.results115, go_sem]; try rfl) rfl ?_
 refine ⟨4, q, 0, _, rfl, ?_, HW.out⟩
 first | exact (Gr.refl w).alloc _ | exact Gr.setAt (Gr.setAt (Gr.setAt ((Gr.refl w).alloc _) (Nat.le_refl _) _) (Nat.le_refl _) _) (Nat.le_refl _) _
theorem read_same (d f : UInt8) (n : Nat) (w : World) : Calls Tryz.prog 115 #[.string (bA (sameK ++ [d, f])), .int .i64 n] w (RetRw n (sameK ++ [d, f]) w) := by
 have t5 := cmp_no (x := sameK ++ [d, f]) (K := [111, 114]) (by simp [sameK])
 have t6 := cmp_no (x := sameK ++ [d, f]) (K := [98, 121]) (by simp [sameK])
 have s1 : (bA (sameK ++ [d, f])).size = 6 := rfl
 have p1 : (((bA (sameK ++ [d, f])).extract 0 4).toList == [115, 97, 109, 101]) = true := by rw [ext4]; exact cmp_yes rfl
 have hi := idx_bA (x := sameK ++ [d, f]) (i := 4) (c := d) rfl 4 rfl
 have hj := idx_bA (x := sameK ++ [d, f]) (i := 5) (c := f) rfl 5 rfl
 have D := Lh (digit147 d)
 have F := Lh (digit147 f)
 have HW := Lh (show (match wdOf (sameK ++ [d, f]) with
   | some wd => (isDg d && isDg f) = okP n wd ∧ ((6 : Int), (d.toNat : Int) - 48, (f.toNat : Int) - 48) = rwd wd
   | none => (isDg d && isDg f) = false) by
  rw [wd_s4, wd_same]
  cases hd : isDg d with
  | true =>
   cases hf : isDg f with
   | true =>
    refine ⟨rfl, ?_⟩
    have h1 := dgv_eq hd
    have h2 := dgv_eq hf
    show _ = ((6 : Int), (dgv d : Int), (dgv f : Int))
    rw [h1, h2]
   | false => rfl
  | false => rfl)
 generalize bA (sameK ++ [d, f]) = s at *
 generalize (d.toNat : Int) - 48 = q at *
 generalize (f.toNat : Int) - 48 = u at *
 generalize ((d.toNat : Nat) : Int) = dn at *
 generalize ((f.toNat : Nat) : Int) = fn at *
 generalize hf : isDg f = okf at *
 cases hd : isDg d with
 | true =>
  rw [hd] at D HW
  clear hd hf
  go_enter Tryz.func115, Tryz.ntmps115
  go_wp2_with (first
   | (go_at_call 147; (with_reducible refine (D.out _).mono ?_); rintro e w7 ⟨rfl, rfl⟩; clear D)
   | (go_at_call 147; (refine (F.out _).mono ?_); rintro e w7 ⟨rfl, rfl⟩))
  refine bodyPost_ret (v := .tuple #[.agg #[.int .i64 6, .int .i64 q, .int .i64 u], .bool okf]) (by simp [results, Tryz.results115, go_sem]; try rfl) rfl ?_
  refine ⟨6, q, u, _, rfl, ?_, HW.out⟩
  first | exact (Gr.refl w).alloc _ | exact Gr.setAt (Gr.setAt (Gr.setAt ((Gr.refl w).alloc _) (Nat.le_refl _) _) (Nat.le_refl _) _) (Nat.le_refl _) _
 | false =>
  rw [hd] at D HW
  clear hd hf
  go_enter Tryz.func115, Tryz.ntmps115
  go_wp2_with (first
   | (go_at_call 147; (with_reducible refine (D.out _).mono ?_); rintro e w7 ⟨rfl, rfl⟩; clear D)
   | (go_at_call 147; (refine (F.out _).mono ?_); rintro e w7 ⟨rfl, rfl⟩))
  refine bodyPost_ret (v := .tuple #[.agg #[.int .i64 6, .int .i64 q, .int .i64 u], .bool false]) (by simp [results, Tryz.results115, go_sem]; try rfl) rfl ?_
  refine ⟨6, q, u, _, rfl, ?_, HW.out⟩
  first | exact (Gr.refl w).alloc _ | exact Gr.setAt (Gr.setAt (Gr.setAt ((Gr.refl w).alloc _) (Nat.le_refl _) _) (Nat.le_refl _) _) (Nat.le_refl _) _
theorem pick_ref (d : UInt8) (r : Key) (n : Nat) {ta : Bool} {v : Int} (h : readR r = (ta, v)) : (match wdOf (pickK ++ d :: 61 :: r) with
  | some wd => (isDg d && ta && (decide (-999 ≤ v) && (decide (v ≤ 999) && decide (Lib.itoa v = r)))) = okP n wd ∧ ((5 : Int), (d.toNat : Int) - 48, v) = rwd wd
  | none => (isDg d && ta && (decide (-999 ≤ v) && (decide (v ≤ 999) && decide (Lib.itoa v = r)))) = false) := by
 rw [wd_p4]
 unfold wdPick
 simp only []
 rw [← num_eq]
 unfold numR
 rw [h]
 simp only []
 cases hd : isDg d with
 | false => simp
 | true =>
  have hv := dgv_eq hd
  simp only [decide_true, Bool.and_true, if_true, Bool.true_and]
  by_cases hc : ta = true ∧ -999 ≤ v ∧ v ≤ 999 ∧ Lib.itoa v = r
  ·rw [if_pos hc]
   obtain ⟨h1, h2, h3, h4⟩ := hc
   simp only [Option.map_some]
   refine ⟨?_, ?_⟩
   ·rw [h1, decide_eq_true h2, decide_eq_true h3, decide_eq_true h4]; rfl
   show _ = ((5 : Int), (dgv d : Int), v)
   rw [hv]
  rw [if_neg hc]
  simp only [Option.map_none]
  rw [Bool.eq_false_iff]
  intro e
  simp only [Bool.and_eq_true, decide_eq_true_eq] at e
  exact hc ⟨e.1, e.2.1, e.2.2.1, e.2.2.2⟩
def RwIs (n : Nat) (x : Key) (a b c : Int) (ok : Bool) : Prop := match wdOf x with
 | some wd => ok = okP n wd ∧ (a, b, c) = rwd wd
 | none => ok = false
theorem not45 {c : UInt8} (h : c ≠ 45) : (((c.toNat : Nat) : Int) == 45) = false := by
 have : c.toNat ≠ 45 := fun e => h (UInt8.toNat_inj.1 e)
 simp
 omega
theorem not6 {i : Nat} (h : i ≠ 6) : ((i : Int) == 6) = false ∧ (i == 6) = false := by
 refine ⟨?_, by simpa using h⟩
 simp
 omega
theorem read_split (r : Key) (h : 1 ≤ r.length) : (∃ t, r = 45 :: t ∧ readR r = (t.all isDg, -foldR t 0)) ∨ (r[0]? ≠ some 45 ∧ readR r = (r.all isDg, foldR r 0)) := by
 match r, h with
 | b :: t, _ =>
  by_cases hb : b = 45
  ·subst hb
   exact .inl ⟨t, rfl, by unfold readR; simp only [if_true]⟩
  refine .inr ⟨by simpa using hb, ?_⟩
  unfold readR
  simp only []
  rw [if_neg hb]
theorem read_pick0 (d : UInt8) (x : Key) (s : ByteArray) (n m : Nat) (sg v : Int) (t : Key) (w : World) (hs : s = bA x) (hlen : s.size = 6 + m + t.length) (hm : m = 1 ∧ x[6]? = some 45 ∧ sg = -1 ∨ m = 0 ∧ t[0]? ≠ some 45 ∧ sg = 1)
  (ht : 1 ≤ m + t.length ∧ m + t.length ≤ 4) (hx4 : x[4]? = some d) (hx5 : x[5]? = some 61) (hx : ∀ j, x[6 + m + j]? = t[j]?) (hp : x.take 4 = pickK) (hv : foldR t 0 * sg = v)
  (hwd : (match wdOf x with
   | some wd => (isDg d && t.all isDg && (decide (-999 ≤ v) && (decide (v ≤ 999) && decide (Lib.itoa v = x.drop 6)))) = okP n wd ∧ ((5 : Int), (d.toNat : Int) - 48, v) = rwd wd
   | none => (isDg d && t.all isDg && (decide (-999 ≤ v) && (decide (v ≤ 999) && decide (Lib.itoa v = x.drop 6)))) = false)) :
  Calls Tryz.prog 115 #[.string s, .int .i64 n] w (RetRw n x w) := by
 have hl2 : x.length = s.size := by rw [hs, bA_size]
 have t5 : (s.toList == [111, 114]) = false := by rw [hs]; exact cmp_no (fun e => by rw [e] at hl2; simp at hl2; omega)
 have t6 : (s.toList == [98, 121]) = false := by rw [hs]; exact cmp_no (fun e => by rw [e] at hl2; simp at hl2; omega)
 have HS := Lh hlen
 have HT := Lh ht
 have hvv := Lh hv
 have HSg := Lh (show sg = 1 ∨ sg = -1 by omega)
 have HW := Lh hwd
 have HM := Lh hm
 have H6 := Lh (show m = 1 → ∀ w, (Instr.index 9 (.string s) (.int .i64 6)).run Tryz.prog w = .ok (.int .u8 45) w from fun h w => by
  rcases hm with ⟨_, h6, _⟩ | ⟨h0, _⟩
  ·rw [hs]; exact idx_bA h6 6 rfl w
  omega)
 have HJ := Lh (show ∀ (j : Nat) (c : UInt8), t[j]? = some c → ∀ w, (Instr.index 9 (.string s) (.int .i64 ((6 + m + j : Nat) : Int))).run Tryz.prog w = .ok (.int .u8 (c.toNat : Nat)) w from fun j c hc w => by
  rw [hs]; exact idx_bA ((hx j).trans hc) _ rfl w)
 have hi5 : ∀ w, (Instr.index 9 (.string s) (.int .i64 5)).run Tryz.prog w = .ok (.int .u8 61) w := by rw [hs]; exact idx_bA hx5 5 rfl
 have hi4 : ∀ w, (Instr.index 9 (.string s) (.int .i64 4)).run Tryz.prog w = .ok (.int .u8 (d.toNat : Nat)) w := by rw [hs]; exact idx_bA hx4 4 rfl
 have p1 : ((s.extract 0 4).toList == [112, 105, 99, 107]) = true := by rw [hs, ext4]; exact cmp_yes hp
 have HX6 := Lh (show s.extract 6 s.size = bA (x.drop 6) by rw [hs, bA_size]; exact ext6 x)
 have z1 : ((s.size : Int) == 1) = false := by simp; omega
 have z5 : ((s.size : Int) == 5) = false := by simp; omega
 have z6 : ((s.size : Int) == 6) = false := by simp; omega
 have y1 : (s.size == 1) = false := by simp; omega
 have y5 : (s.size == 5) = false := by simp; omega
 have y6 : (s.size == 6) = false := by simp; omega
 have k0 : (4 : Int) ≤ (s.size : Int) := by omega
 have k1 : 4 ≤ s.size := by omega
 have k6 : (6 : Int) ≤ (s.size : Int) := by omega
 have k61 : 6 ≤ s.size := by omega
 have q1 : (7 : Int) ≤ (s.size : Int) := by omega
 have q2 : decide ((7 : Int) ≤ (s.size : Int)) = true := decide_eq_true q1
 have q3 : decide (7 ≤ s.size) = true := decide_eq_true (by omega)
 have q4 : (s.size : Int) ≤ 10 := by omega
 have q5 : decide ((s.size : Int) ≤ 10) = true := decide_eq_true q4
 have q6 : decide (s.size ≤ 10) = true := decide_eq_true (by omega)
 have D := Lh (digit147 d)
 have DC := Lh digit147
 clear hl2 hlen ht hv hwd hm hx4 hx5 hx hp hs
 generalize (d.toNat : Int) - 48 = q at *
 generalize ((d.toNat : Nat) : Int) = dn at *
 generalize isDg d = kd at *
 have G0 := Lh (Gr.refl (w.alloc (.cells #[.int .i64 0, .int .i64 0, .int .i64 0] 128)))
 have HG0 := Lh (show Gr w (w.alloc (.cells #[.int .i64 0, .int .i64 0, .int .i64 0] 128)) ∧ St3 (w.alloc (.cells #[.int .i64 0, .int .i64 0, .int .i64 0] 128)) w.heap.size from ⟨(Gr.refl w).alloc _, St3.new G0.out⟩)
 go_enter Tryz.func115, Tryz.ntmps115
 obtain ⟨b9, hb9⟩ : ∃ b9, w.heap.size = b9 := ⟨_, rfl⟩
 go_wp2_with (go_at_call 147; (with_reducible refine (D.out _).mono ?_); rintro e w7 ⟨rfl, rfl⟩)
 try rw [hb9]
 clear D hi4 hi5 t5 t6 p1 z1 z5 z6 y1 y5 y6 k0 k1 q1 q2 q3 q4 q5 q6 G0
 have HB9 := Lh (Nat.le_of_eq hb9)
 rw [hb9] at HG0
 go_loopw [14, 15, 16, 17] (fun s14 s15 s16 s17 wr => ((m = 1 ∧ s17 = .int .i64 6 ∧ s14 = .bool kd ∧ s15 = .int .i64 0 ∧ s16 = .int .i64 1) ∨ (∃ j : Nat, j ≤ t.length ∧ s17 = .int .i64 ((6 + m + j : Nat) : Int) ∧ s16 = .int .i64 sg ∧ s14 = .bool (kd && (t.take j).all isDg) ∧ s15 = .int .i64 (foldR (t.take j) 0))) ∧ Hid (Gr w wr ∧ St3 wr b9)) (fun _ _ _ s17 _ => s.size - (intOf s17).toNat)
 case atStart =>
  refine ⟨?_, HG0⟩
  rcases HM.out with ⟨h1, _, _⟩ | ⟨h1, _, h3⟩
  ·exact .inl ⟨h1, rfl, rfl, rfl, rfl⟩
  exact .inr ⟨0, Nat.zero_le _, by first | (rw [h1]; done) | (rw [h1]; rfl), by rw [h3], by simp, by simp [foldR]⟩
 case round =>
  obtain ⟨hrel, HGx⟩ := hrel
  rcases hrel with ⟨hm1, rfl, rfl, rfl, rfl⟩ | ⟨j, hj, rfl, rfl, rfl, rfl⟩
  ·have h6 := H6.out hm1
   have lt6 : (6 : Int) < (s.size : Int) := by have := HS.out; omega
   have lt6' : 6 < s.size := by omega
   go_wp2_with fail
   go_roundw
   case rel => exact ⟨.inr ⟨0, Nat.zero_le _, by first | (rw [hm1]; rfl) | (rw [hm1]), by first | (rcases HM.out with ⟨_, _, h3⟩ | ⟨h0, _⟩ <;> first | rw [h3] | omega), by simp, by simp [foldR]⟩, HGx⟩
   case measure => first | (simp [intOf]; omega) | simp [intOf]
  by_cases hjl : j < t.length
  ·obtain ⟨c, hc⟩ : ∃ c, t[j]? = some c := ⟨_, List.getElem?_eq_getElem hjl⟩
   have hI := HJ.out j c hc
   have DX := Lh (DC.out c)
   have lti : ((6 + m + j : Nat) : Int) < (s.size : Int) := by have := HS.out; omega
   have H45 := Lh (show 6 + m + j = 6 → c ≠ 45 from fun h e => by
    rcases HM.out with ⟨h1, _, _⟩ | ⟨_, h2, _⟩
    ·omega
    have hj0 : j = 0 := by omega
    rw [hj0, e] at hc
    exact h2 hc)
   have HA := Lh (show (t.take (j + 1)).all isDg = ((t.take j).all isDg && isDg c) by
    rw [List.take_add_one, hc]; simp)
   have HF1 := Lh (show foldR (t.take (j + 1)) 0 = 10 * foldR (t.take j) 0 + ((c.toNat : Int) - 48) by
    rw [List.take_add_one, hc]
    show foldR (t.take j ++ [c]) 0 = _
    rw [foldR_app]
    rfl)
   have b4 := foldR_4 (l := t.take j) (by rw [List.length_take]; have := HT.out; omega)
   have hcn := c.toNat_lt
   have HE := Lh (show 6 + m + (j + 1) = 6 + m + j + 1 by omega)
   have HSz := Lh (show 6 + m + j < s.size ∧ 6 + m + j ≤ 20 by have := HS.out; have := HT.out; omega)
   clear hc HJ DC HW HX6
   generalize foldR (t.take j) 0 = N0 at *
   obtain ⟨N1, hN1⟩ : ∃ N1, 10 * N0 = N1 := ⟨_, rfl⟩
   have e1 : wrap64 (10 * N0) = N1 := (IntWalk.wrap64_in _ (by omega)).trans hN1
   rw [hN1] at HF1
   obtain ⟨cq, hcq⟩ : ∃ cq, (c.toNat : Int) - 48 = cq := ⟨_, rfl⟩
   rw [hcq] at HF1 DX
   obtain ⟨N2, hN2⟩ : ∃ N2, N1 + cq = N2 := ⟨_, rfl⟩
   have e2 : wrap64 (N1 + cq) = N2 := (IntWalk.wrap64_in _ (by omega)).trans hN2
   rw [hN2] at HF1
   clear b4 hN1 hN2 hcq
   obtain ⟨i, hi⟩ : ∃ i, 6 + m + j = i := ⟨_, rfl⟩
   rw [hi] at hI lti H45 HE HSz ⊢
   have e3 : wrap64 ((i : Int) + 1) = ((i + 1 : Nat) : Int) := by rw [IntWalk.wrap64_in _ (by have := HSz.out; omega)]; omega
   have hi6 := Lh hi
   clear hi hj
   generalize (t.take j).all isDg = tj at *
   obtain ⟨kc, hkc⟩ : ∃ kc, isDg c = kc := ⟨_, rfl⟩
   rw [hkc] at HA DX
   clear hkc
   by_cases h6 : i = 6
   ·have e6 : ((i : Int) == 6) = true := by rw [h6]; rfl
    have hb := not45 (H45.out h6)
    clear h6 hcn
    generalize ((c.toNat : Nat) : Int) = cn at *
    cases hk : (kd && tj) with
    | true =>
     go_wp2_with (go_at_call 147; (with_reducible refine (DX.out _).mono ?_); rintro e w7 ⟨rfl, rfl⟩)
     go_roundw
     case rel => exact ⟨.inr ⟨j + 1, hjl, by rw [HE.out]; first | rw [e3] | rfl, rfl, by rw [HA.out, ← Bool.and_assoc, hk, Bool.true_and], by first | (rw [HF1.out, e2]; done) | rw [HF1.out]⟩, HGx⟩
     case measure => have := HSz.out; clear e1 e2 k6 k61 lti hI DX; first | (rw [e3]; clear e3; simp [intOf]; omega) | (simp [intOf]; omega)
    | false =>
     go_wp2_with (go_at_call 147; (with_reducible refine (DX.out _).mono ?_); rintro e w7 ⟨rfl, rfl⟩)
     go_roundw
     case rel => exact ⟨.inr ⟨j + 1, hjl, by rw [HE.out]; first | rw [e3] | rfl, rfl, by rw [HA.out, ← Bool.and_assoc, hk, Bool.false_and], by first | (rw [HF1.out, e2]; done) | rw [HF1.out]⟩, HGx⟩
     case measure => have := HSz.out; clear e1 e2 k6 k61 lti hI DX; first | (rw [e3]; clear e3; simp [intOf]; omega) | (simp [intOf]; omega)
   have e6 : ((i : Int) == 6) = false := (not6 h6).1
   have e6' : (i == 6) = false := (not6 h6).2
   clear h6 hcn
   generalize ((c.toNat : Nat) : Int) = cn at *
   cases hk : (kd && tj) with
   | true =>
    go_wp2_with (go_at_call 147; (with_reducible refine (DX.out _).mono ?_); rintro e w7 ⟨rfl, rfl⟩)
    go_roundw
    case rel => exact ⟨.inr ⟨j + 1, hjl, by rw [HE.out]; first | rw [e3] | rfl, rfl, by rw [HA.out, ← Bool.and_assoc, hk, Bool.true_and], by first | (rw [HF1.out, e2]; done) | rw [HF1.out]⟩, HGx⟩
    case measure => have := HSz.out; clear e1 e2 k6 k61 lti hI DX; first | (rw [e3]; clear e3; simp [intOf]; omega) | (simp [intOf]; omega)
   | false =>
    go_wp2_with (go_at_call 147; (with_reducible refine (DX.out _).mono ?_); rintro e w7 ⟨rfl, rfl⟩)
    go_roundw
    case rel => exact ⟨.inr ⟨j + 1, hjl, by rw [HE.out]; first | rw [e3] | rfl, rfl, by rw [HA.out, ← Bool.and_assoc, hk, Bool.false_and], by first | (rw [HF1.out, e2]; done) | rw [HF1.out]⟩, HGx⟩
    case measure => have := HSz.out; clear e1 e2 k6 k61 lti hI DX; first | (rw [e3]; clear e3; simp [intOf]; omega) | (simp [intOf]; omega)
  obtain rfl : j = t.length := by omega
  have HV := Lh (show foldR (t.take t.length) 0 * sg = v by rw [List.take_length]; exact hvv.out)
  rw [List.take_length] at *
  have HW2 := HW
  have nlt : ¬ ((6 + m + t.length : Nat) : Int) < (s.size : Int) := by have := HS.out; omega
  obtain ⟨i, hi⟩ : ∃ i, 6 + m + t.length = i := ⟨_, rfl⟩
  rw [hi] at nlt ⊢
  have b4 := foldR_4 (l := t) (by have := HT.out; omega)
  have e9 : wrap64 (foldR t 0 * sg) = v := by
   have h0 := hvv.out
   rw [h0]
   refine IntWalk.wrap64_in _ ?_
   rcases HSg.out with h | h <;> rw [h] at h0 <;> omega
  have HVb := Lh (show -1000000 ≤ v ∧ v ≤ 1000000 by
   have h0 := hvv.out
   rcases HSg.out with h | h <;> rw [h] at h0 <;> omega)
  generalize foldR t 0 = N0 at *
  generalize t.all isDg = ta at *
  clear hi hj hjl b4
  cases hk : (kd && ta) with
  | false =>
   rw [hk] at HW
   have HF := Lh (show RwIs n x 5 q v false from HW.out)
   clear HW HW2 hk HVb HX6
   go_upto_region 27 with fail
   refine Hg (fun w' => Gr w w' ∧ St3 w' b9) 21 ?_
   have hS : Gr w wr.drew ∧ St3 wr.drew b9 := ⟨HGx.out.1.drew, HGx.out.2.gr ((Gr.refl _).drew)⟩
   obtain ⟨wX, hwX⟩ : ∃ wX, wr.drew = wX := ⟨_, rfl⟩
   rw [hwX] at hS ⊢
   clear hwX
   refine H5 0 1 2 3 4 tv hS ?_; refine Hs2 5 6 hS ?_; refine H2 7 8 tv hS ?_; refine Hs2 9 10 hS ?_; refine H2 11 12 tv hS ?_; refine Hs4 13 14 15 16 hS ?_; refine Hs1 17 hS ?_; refine H1 18 tv hS ?_
   obtain ⟨⟨m0, m1, m2, v0, v1, v2⟩, l0, l1, l2⟩ := hS.2
   obtain ⟨W, hW, gW, y0, y1, y2⟩ := put3 hS.1 HB9.out v0 v1 v2 (.int .i64 5) (.int .i64 q) (.int .i64 v)
   have hSW : Gr w W ∧ St3 W b9 := ⟨gW, hW ▸ hS.2.set _ _ _⟩
   refine Hr 19 rfl (fun K hK => ?_)
   go_simp
   try rw [hW]
   refine hK.out _ _ hSW ?_
   clear hK K hS
   have hS := hSW
   refine Hr 20 rfl (fun K hK => ?_)
   go_simp
   refine hK.out _ _ hS ?_
   clear hK K
   refine Hd ?_
   go_wp2_with fail
   refine bodyPost_ret (v := .tuple #[.agg #[.int .i64 5, .int .i64 q, .int .i64 v], .bool false]) (by simp [results, Tryz.results115, go_sem, y0, y1, y2]; try rfl) rfl ?_
   exact ⟨5, q, v, _, rfl, gW, HF.out⟩
  | true =>
   rw [hk] at HW
   by_cases hlo : -999 ≤ v
   ·have r1 : decide (-999 ≤ v) = true := decide_eq_true hlo
    by_cases hhi : v ≤ 999
    ·have r2 : decide (v ≤ 999) = true := decide_eq_true hhi
     have CI := Lh (decimal_itoa v HVb.out.1 HVb.out.2)
     have HC := Lh (show ((bA (Lib.itoa v)).toList == (bA (x.drop 6)).toList) = decide (Lib.itoa v = x.drop 6) by
      rw [ByteArray.toList_eq, ByteArray.toList_eq, Bool.eq_iff_iff]
      simp [bA])
     have HC2 := Lh (show ((bA (Lib.itoa v)).toList == (s.extract 6 s.size).toList) = decide (Lib.itoa v = x.drop 6) by rw [HX6.out]; exact HC.out)
     rw [r1, r2] at HW
     unfold RetT at CI
     generalize hqq : decide (Lib.itoa v = x.drop 6) = qq at *
     have HF := Lh (show RwIs n x 5 q v qq from HW.out)
     clear HW HW2 hk HVb HX6 hlo hhi HC hqq
     generalize bA (Lib.itoa v) = uv at *
     have hcmp := HC2.out
     go_upto_region 27 with fail
     refine Hg (fun w' => Gr w w' ∧ St3 w' b9) 21 ?_
     have hS : Gr w wr.drew ∧ St3 wr.drew b9 := ⟨HGx.out.1.drew, HGx.out.2.gr ((Gr.refl _).drew)⟩
     obtain ⟨wX, hwX⟩ : ∃ wX, wr.drew = wX := ⟨_, rfl⟩
     rw [hwX] at hS ⊢
     clear hwX
     refine H12 0 1 2 3 4 5 6 7 8 9 10 11 tv hS ?_; refine H4 12 13 15 16 tv hS ?_
     refine Hr 14 rfl (fun K hK => ?_)
     go_simp
     refine ⟨trivial, ?_⟩
     refine (callsIn_wide.2 (CI.out _)).mono ?_
     rintro e wX ⟨rfl, gX⟩
     have hS : Gr w wX ∧ St3 wX b9 := ⟨hS.1.trans gX, hS.2.gr gX⟩
     refine hK.out _ _ hS ?_
     clear hK K gX
     refine H2 17 18 tv hS ?_
     obtain ⟨⟨m0, m1, m2, v0, v1, v2⟩, l0, l1, l2⟩ := hS.2
     obtain ⟨W, hW, gW, y0, y1, y2⟩ := put3 hS.1 HB9.out v0 v1 v2 (.int .i64 5) (.int .i64 q) (.int .i64 v)
     have hSW : Gr w W ∧ St3 W b9 := ⟨gW, hW ▸ hS.2.set _ _ _⟩
     refine Hr 19 rfl (fun K hK => ?_)
     go_simp
     try rw [hW]
     refine hK.out _ _ hSW ?_
     clear hK K hS
     have hS := hSW
     refine Hr 20 rfl (fun K hK => ?_)
     go_simp
     refine hK.out _ _ hS ?_
     clear hK K
     refine Hd ?_
     go_wp2_with fail
     refine bodyPost_ret (v := .tuple #[.agg #[.int .i64 5, .int .i64 q, .int .i64 v], .bool qq]) (by simp [results, Tryz.results115, go_sem, y0, y1, y2]; try rfl) rfl ?_
     exact ⟨5, q, v, _, rfl, gW, HF.out⟩
    have r2 : decide (v ≤ 999) = false := decide_eq_false hhi
    rw [r1, r2] at HW
    have HF := Lh (show RwIs n x 5 q v false from HW.out)
    clear HW HW2 hk HVb HX6 hlo hhi
    go_upto_region 27 with fail
    refine Hg (fun w' => Gr w w' ∧ St3 w' b9) 21 ?_
    have hS : Gr w wr.drew ∧ St3 wr.drew b9 := ⟨HGx.out.1.drew, HGx.out.2.gr ((Gr.refl _).drew)⟩
    obtain ⟨wX, hwX⟩ : ∃ wX, wr.drew = wX := ⟨_, rfl⟩
    rw [hwX] at hS ⊢
    clear hwX
    refine H12 0 1 2 3 4 5 6 7 8 9 10 11 tv hS ?_; refine H1 12 tv hS ?_; refine Hs4 13 14 15 16 hS ?_; refine Hs1 17 hS ?_; refine H1 18 tv hS ?_
    obtain ⟨⟨m0, m1, m2, v0, v1, v2⟩, l0, l1, l2⟩ := hS.2
    obtain ⟨W, hW, gW, y0, y1, y2⟩ := put3 hS.1 HB9.out v0 v1 v2 (.int .i64 5) (.int .i64 q) (.int .i64 v)
    have hSW : Gr w W ∧ St3 W b9 := ⟨gW, hW ▸ hS.2.set _ _ _⟩
    refine Hr 19 rfl (fun K hK => ?_)
    go_simp
    try rw [hW]
    refine hK.out _ _ hSW ?_
    clear hK K hS
    have hS := hSW
    refine Hr 20 rfl (fun K hK => ?_)
    go_simp
    refine hK.out _ _ hS ?_
    clear hK K
    refine Hd ?_
    go_wp2_with fail
    refine bodyPost_ret (v := .tuple #[.agg #[.int .i64 5, .int .i64 q, .int .i64 v], .bool false]) (by simp [results, Tryz.results115, go_sem, y0, y1, y2]; try rfl) rfl ?_
    exact ⟨5, q, v, _, rfl, gW, HF.out⟩
   have r1 : decide (-999 ≤ v) = false := decide_eq_false hlo
   rw [r1] at HW
   have HF := Lh (show RwIs n x 5 q v false from HW.out)
   clear HW HW2 hk HVb HX6 hlo
   go_upto_region 27 with fail
   refine Hg (fun w' => Gr w w' ∧ St3 w' b9) 21 ?_
   have hS : Gr w wr.drew ∧ St3 wr.drew b9 := ⟨HGx.out.1.drew, HGx.out.2.gr ((Gr.refl _).drew)⟩
   obtain ⟨wX, hwX⟩ : ∃ wX, wr.drew = wX := ⟨_, rfl⟩
   rw [hwX] at hS ⊢
   clear hwX
   refine H5 0 1 2 3 4 tv hS ?_; refine H4 5 6 7 8 tv hS ?_; refine Hs2 9 10 hS ?_; refine H2 11 12 tv hS ?_; refine Hs4 13 14 15 16 hS ?_; refine Hs1 17 hS ?_; refine H1 18 tv hS ?_
   obtain ⟨⟨m0, m1, m2, v0, v1, v2⟩, l0, l1, l2⟩ := hS.2
   obtain ⟨W, hW, gW, y0, y1, y2⟩ := put3 hS.1 HB9.out v0 v1 v2 (.int .i64 5) (.int .i64 q) (.int .i64 v)
   have hSW : Gr w W ∧ St3 W b9 := ⟨gW, hW ▸ hS.2.set _ _ _⟩
   refine Hr 19 rfl (fun K hK => ?_)
   go_simp
   try rw [hW]
   refine hK.out _ _ hSW ?_
   clear hK K hS
   have hS := hSW
   refine Hr 20 rfl (fun K hK => ?_)
   go_simp
   refine hK.out _ _ hS ?_
   clear hK K
   refine Hd ?_
   go_wp2_with fail
   refine bodyPost_ret (v := .tuple #[.agg #[.int .i64 5, .int .i64 q, .int .i64 v], .bool false]) (by simp [results, Tryz.results115, go_sem, y0, y1, y2]; try rfl) rfl ?_
   exact ⟨5, q, v, _, rfl, gW, HF.out⟩
theorem read_pick (d : UInt8) (r : Key) (n : Nat) (w : World) (h1 : 1 ≤ r.length) (h4 : r.length ≤ 4) : Calls Tryz.prog 115 #[.string (bA (pickK ++ d :: 61 :: r)), .int .i64 n] w (RetRw n (pickK ++ d :: 61 :: r) w) := by
 rcases read_split r h1 with ⟨t, rfl, hr⟩ | ⟨h0, hr⟩
 ·have hw := pick_ref d (45 :: t) n hr
  refine read_pick0 d _ _ n 1 (-1) (-foldR t 0) t w rfl ?_ (.inl ⟨rfl, rfl, rfl⟩) ?_ rfl rfl (fun j => ?_) rfl (by omega) hw
  ·rw [bA_size]; simp [pickK]; omega
  ·simp at h4; omega
  show (pickK ++ d :: 61 :: 45 :: t)[6 + 1 + j]? = _
  rw [show 6 + 1 + j = j + 1 + 1 + 1 + 1 + 1 + 1 + 1 by omega]
  rfl
 have hw := pick_ref d r n hr
 refine read_pick0 d _ _ n 0 1 (foldR r 0) r w rfl ?_ (.inr ⟨rfl, h0, rfl⟩) ⟨by omega, by omega⟩ rfl rfl (fun j => ?_) rfl (by omega) hw
 ·rw [bA_size]; simp [pickK]; omega
 show (pickK ++ d :: 61 :: r)[6 + 0 + j]? = _
 rw [show 6 + 0 + j = j + 1 + 1 + 1 + 1 + 1 + 1 by omega]
 rfl
theorem readWord_any (x : Key) (n : Nat) (hn : n ≤ 4) (w : World) : Calls Tryz.prog 115 #[.string (bA x), .int .i64 n] w (RetRw n x w) := by
 by_cases h5 : x = [111, 114]
 ·subst h5; exact read_or n w
 by_cases h6 : x = [98, 121]
 ·subst h6; exact read_by n w
 by_cases e1 : x.length = 1
 ·obtain ⟨c, rfl⟩ := List.length_eq_one_iff.1 e1
  exact read_one c n hn w
 have four : ∀ {K : Key}, K.length = 4 → x.take 4 = K → ∃ r, x = K ++ r ∧ x.length = 4 + r.length := by
  intro K hK e
  refine ⟨x.drop 4, four_of hK e, ?_⟩
  have := congrArg List.length e
  rw [List.length_take, hK] at this
  rw [List.length_drop]
  omega
 by_cases e5 : x.length = 5
 ·by_cases ht : x.take 4 = dropK
  ·obtain ⟨r, rfl, hr⟩ := four (K := dropK) rfl ht
   obtain ⟨d, rfl⟩ := List.length_eq_one_iff.1 (show r.length = 1 by omega)
   exact read_drop d n w
  refine read_five x n w h5 h6 e5 ht ?_
  cases hw : wdOf x with
  | none => rfl
  | some wd =>
   rcases wd_shape hw with h | h | h | h | h | h
   ·omega
   ·exact absurd h h5
   ·exact absurd h h6
   ·exact absurd h.1 ht
   ·omega
   omega
 by_cases e6 : x.length = 6
 ·by_cases ht : x.take 4 = sameK
  ·obtain ⟨r, rfl, hr⟩ := four (K := sameK) rfl ht
   obtain ⟨d, f, rfl⟩ : ∃ d f, r = [d, f] := by
    match r, (show r.length = 2 by omega) with
    | [d, f], _ => exact ⟨d, f, rfl⟩
   exact read_same d f n w
  refine read_six x n w h5 h6 e6 ht ?_
  cases hw : wdOf x with
  | none => rfl
  | some wd =>
   rcases wd_shape hw with h | h | h | h | h | h
   ·omega
   ·exact absurd h h5
   ·exact absurd h h6
   ·omega
   ·exact absurd h.1 ht
   omega
 by_cases l7 : x.length < 7
 ·refine read_short x n w h5 h6 l7 e1 e5 e6 ?_
  cases hw : wdOf x with
  | none => rfl
  | some wd =>
   rcases wd_shape hw with h | h | h | h | h | h
   ·omega
   ·exact absurd h h5
   ·exact absurd h h6
   ·omega
   ·omega
   omega
 by_cases l10 : 10 < x.length
 ·refine read_long x n w h5 h6 l10 ?_
  cases hw : wdOf x with
  | none => rfl
  | some wd =>
   rcases wd_shape hw with h | h | h | h | h | h
   ·omega
   ·exact absurd h h5
   ·exact absurd h h6
   ·omega
   ·omega
   omega
 by_cases ht : x.take 4 = pickK
 ·obtain ⟨r, rfl, hr⟩ := four (K := pickK) rfl ht
  obtain ⟨d, c, t, rfl⟩ : ∃ d c t, r = d :: c :: t := by
   match r, (show 3 ≤ r.length by omega) with
   | d :: c :: t, _ => exact ⟨d, c, t, rfl⟩
  simp only [List.length_cons] at hr
  by_cases hc : c = 61
  ·subst hc
   exact read_pick d t n w (by omega) (by omega)
  refine read_sign _ n w h5 h6 (by omega) (by omega) ht c rfl hc ?_
  cases hw : wdOf (pickK ++ d :: c :: t) with
  | none => rfl
  | some wd =>
   rcases wd_shape hw with h | h | h | h | h | h
   ·omega
   ·exact absurd h h5
   ·exact absurd h h6
   ·omega
   ·omega
   have := h.2.2.2
   exact absurd (Option.some.inj this) hc
 refine read_mid x n w h5 h6 (by omega) (by omega) ht ?_
 cases hw : wdOf x with
 | none => rfl
 | some wd =>
  rcases wd_shape hw with h | h | h | h | h | h
  ·omega
  ·exact absurd h h5
  ·exact absurd h h6
  ·omega
  ·omega
  exact absurd h.1 ht
end Go.Proofs.YtehdemcfeoiecaaGreatDoor
