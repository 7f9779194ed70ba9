/- Contracts of chapter 2: the iterator over the times of hits, each with how many there are within. -/
import Derived.Test.YtjokheeegcilhaaDoorWJ
import Derived.Test.YtjokheeegcilhaaDoorWH
namespace Go.Proofs.YtjokheeegcilhaaDoor
open Go.RowKit Go.Firn Go.Shelf Go.Sort
attribute [local go_sem] Oper.semAt_some
theorem wide_fn (f : FuncId) : Fence.wide.fn f = True := rfl
attribute [local simp] wide_fn

/-- A time and a count, as they are handed to a round. -/
def encP (x : Int × Int) : Array Value := #[.int .i64 x.1, .int .i64 x.2]

set_option maxHeartbeats 4000000 in
set_option maxRecDepth 100000 in
theorem counts1_seq {K : Nat → Prop} (m : Nat) (hm : 1 ≤ m) (b1 b2 : Nat) (adr : Option Addr) (n c : Nat) (P T : Nat → Int) (wi : Int) (w : World) (h1 : 1 ≤ n) (hn : n ≤ 14) (hT : ∀ i, i < n → -1000 ≤ T i ∧ T i ≤ 1000) (hwi : 0 ≤ wi ∧ wi ≤ 2000)
    (hb1 : w.cell? ⟨b1, 0, none⟩ = some (.slice adr n c)) (hb2 : w.cell? ⟨b2, 0, none⟩ = some (.int .i64 wi)) (hr : RdM w adr n P T) (hK1 : K b2) (hK2 : ∀ k, w.heap.size ≤ k → K k) :
    SeqStopsK Fence.wide m Tryd.prog 107 #[.pointer (some ⟨b1, 0, none⟩), .pointer (some ⟨b2, 0, none⟩)] encP (Kc K) (fun xs => xs = yls (srF T n) (cI T n wi) n) (fun pre => ∃ k, k < n ∧ pre = yls (srF T n) (cI T n wi) k ++ [(srF T n k, cI T n wi (srF T n k))]) 1000 w := fun l J Jx W hW hJ hJx hY h0 => by
  have HB1 : W.cell? ⟨b1, 0, none⟩ = some (.slice adr n c) := by
    rw [Below.cell hW (p := ⟨b1, 0, none⟩) (World.block_lt_of_cell? w _ hb1)]; exact hb1
  have HB2 := Lib.hid (show W.cell? ⟨b2, 0, none⟩ = some (.int .i64 wi) by
    rw [Below.cell hW (p := ⟨b2, 0, none⟩) (World.block_lt_of_cell? w _ hb2)]; exact hb2)
  have HR := Lib.hid (hr.gr hW)
  have YY := Lib.hid hY
  have JJ := Lib.hid hJ
  have H0 := Lib.hid h0
  have HK1 := Lib.hid hK1
  have HK2 := Lib.hid hK2
  have SZ : w.heap.size ≤ W.heap.size := Gr.size hW
  have SB := Lib.hid (show ∀ i, i < n → -1000 ≤ srF T n i ∧ srF T n i ≤ 1000 from fun i hi => by
    obtain ⟨k, hk, e⟩ := srF_mem (X := T) hi
    rw [e]; exact hT k hk)
  clear hr hb1 hb2 hY hJ hJx h0 hW hK1 hK2 hT
  refine callsIn_of_wp Tryd.func107 rfl trivial ?_ rfl
  simp only [Tryd.ntmps107, List.size_toArray, List.length_cons, List.length_nil, Nat.reduceAdd, Nat.reduceSub, Array.replicate_succ, Array.replicate_zero, List.push_toArray, List.append_toArray, List.nil_append, List.cons_append]
  gi_wp2
  clear HB1
  gi_loopw [4, 13] (fun v i wr => ∃ k : Nat, k ≤ n ∧ i = .int .i64 k ∧ Hid (OwnI W 3 wr v k T)) (fun _ i _ => n - (intOf i).toNat)
  case atStart => exact ⟨0, Nat.zero_le _, rfl, Lib.hid (OwnI.nil _ _ _)⟩
  case round =>
    obtain ⟨k, hk, rfl, HO⟩ := hrel
    by_cases hlt : k < n
    · have k1 : (k : Int) < (n : Int) := by omega
      obtain ⟨b, o, e, hc⟩ := (HR.out.gr HO.out.2).at hlt
      obtain ⟨ck0, ck1⟩ := hc k hlt
      subst e
      clear hc
      have k9 : k < 1000000000 := by omega
      generalize hx : T k = x at *
      generalize P k = y at *
      have HX := Lib.hid hx
      clear hx
      obtain ⟨y0, y1, _⟩ := (Box2.new rfl : Box2 (wr.alloc (.cells #[.int .i64 y, .int .i64 x] 51)) wr.heap.size y x)
      have ZC := Lib.hid (show ((wr.alloc (.cells #[.int .i64 y, .int .i64 x] 51)).alloc (.cells #[.int .i64 x] 3)).cell? ⟨wr.heap.size + 1, 0, none⟩ = some (.int .i64 x) by
        have t := cell_new1 (wr.alloc (.cells #[.int .i64 y, .int .i64 x] 51)) (.int .i64 x) 3
        rwa [World.size_alloc] at t)
      gi_wp2_with (gi_at_builtin; refine wpListIn_app_int rfl _ _ 23 3 rfl Tryd.underlying23 Tryd.info3 _ k _ rfl (HO.out.gr (((Gr.refl _).alloc _).alloc _)) _ _ rfl ZC.out HX.out k9 ?_; intro v1 w4 ow4 _; have OW := Lib.hid ow4; clear ow4)
      go_roundw
      case rel => exact ⟨k + 1, hlt, by go_num, OW⟩
      case measure => simp [intOf]; omega
    · obtain rfl : k = n := by omega
      have k1 : ¬ (k : Int) < (k : Int) := by omega
      gi_wp2_with (gi_at_call 108; (with_reducible refine (callsIn_wide.2 (SortT_any _ _ _ _ _ (by omega) (by omega) HO.out)).mono ?_); rintro e w5 ⟨rfl, g, cap, ev, hg, hc, gs⟩; have GS := Lib.hid gs; have HC := Lib.hid hc; clear gs hc; subst ev)
      have J5 := Lib.hid (JJ.out [] W w5 none H0.out (grows GS.out) (fun r e => by cases e))
      have kg : K g := HK2.out g (by omega)
      gi_wp2
      gi_loopw [27] (fun i wr => ∃ q : Nat, q ≤ k ∧ i = .int .i64 q ∧ Hid (J (yls (srF T k) (cI T k wi) q) wr) ∧ Hid (Kc K w5 wr)) (fun i _ => k - (intOf i).toNat)
      case atStart => exact ⟨0, Nat.zero_le _, rfl, J5, Lib.hid (fun _ _ _ h => h)⟩
      case round =>
        obtain ⟨q, hq, rfl, HJ, HKc⟩ := hrel
        by_cases hlq : q < k
        · have i2 : (q : Int) < (k : Int) := by omega
          have cx := HKc.out ⟨g, q, none⟩ _ kg (HC.out q hlq)
          have cw := HKc.out ⟨b2, 0, none⟩ _ HK1.out (GS.out.cell HB2.out)
          have CW := Lib.hid (show ∀ i, i < k → wr.cell? ⟨g, i, none⟩ = some (.int .i64 (srF T k i)) from fun i hi => HKc.out ⟨g, i, none⟩ _ kg (HC.out i hi))
          have CB := Lib.hid (BS_any g k cap T (srF T k q + wi + 1) wr hn CW.out)
          have sb := SB.out q hlq
          obtain ⟨q1, q2⟩ := wr64 (x := srF T k q + wi) (by omega)
          obtain ⟨q3, q4⟩ := wr64 (x := srF T k q + wi + 1) (by clear q1 q2; omega)
          by_cases hd : 0 < q ∧ srF T k (q - 1) = srF T k q
          · have E := Lib.hid (show yls (srF T k) (cI T k wi) (q + 1) = yls (srF T k) (cI T k wi) q by
              show yls (srF T k) (cI T k wi) q ++ _ = _
              rw [if_pos hd]; simp)
            have i3 : (0 : Int) < (q : Int) := by clear q1 q2 q3 q4; omega
            have i3' : (q : Int) > 0 := i3
            have i4 : 0 < q := hd.1
            obtain ⟨jq, hjq⟩ : ∃ j, j = q - 1 := ⟨_, rfl⟩
            have q7 : (q : Int) - 1 = (jq : Int) := by clear q1 q2 q3 q4; omega
            have ij : jq < k := by clear q1 q2 q3 q4; omega
            have ij1 : (jq : Int) < (k : Int) := by clear q1 q2 q3 q4; omega
            obtain ⟨q5, q6⟩ := wr64 (x := (q : Int) - 1) (by clear q1 q2 q3 q4; omega)
            replace q5 := q5.trans q7
            replace q6 := q6.trans q7
            have cp := CW.out jq ij
            rw [hjq, hd.2, ← hjq] at cp
            clear q7 hd hjq
            gi_wp2_with (gi_at_call 109; (with_reducible refine (callsIn_wide.2 CB.out).mono ?_); rintro e w6 ⟨⟨fo, rfl⟩, dr, hw6⟩; have g6 : Gr wr w6 := (by rw [hw6]; exact (Gr.refl _).drewN _); have J6 := Lib.hid (JJ.out _ wr w6 none HJ.out (grows g6) (fun r e => by cases e)); have K6 := Lib.hid (show Kc K w5 w6 from HKc.out.trans fun p v _ e => g6.cell e); have cp := g6.cell cp; clear g6 hw6)
            go_roundw
            case rel => exact ⟨q + 1, hlq, by go_num, by rw [E.out]; exact J6, K6⟩
            case measure => simp [intOf]; omega
          · have E := Lib.hid (show yls (srF T k) (cI T k wi) (q + 1) = yls (srF T k) (cI T k wi) q ++ [(srF T k q, cI T k wi (srF T k q))] by
              show yls (srF T k) (cI T k wi) q ++ _ = _
              rw [if_neg hd])
            have YL := Lib.hid (show (yls (srF T k) (cI T k wi) q).length < 1000 by have := yls_len (srF T k) (cI T k wi) q; clear q1 q2 q3 q4; omega)
            have EC := end_at (T := T) (n := k) (k := q) (w := wi) hwi.1 hlq (by
              rcases Nat.eq_zero_or_pos q with e | e
              · exact .inl e
              · exact .inr fun x => hd ⟨e, x⟩)
            rw [EC] at CB
            have cb := cI_bd T hn wi (srF T k q)
            have q8 : ((q + cnT T k wi (srF T k q) : Nat) : Int) - (q : Int) = cI T k wi (srF T k q) := by unfold cI; clear q1 q2 q3 q4; omega
            obtain ⟨q9, q10⟩ := wr64 (x := ((q + cnT T k wi (srF T k q) : Nat) : Int) - (q : Int)) (by clear q1 q2 q3 q4; omega)
            replace q9 := q9.trans q8
            replace q10 := q10.trans q8
            clear q8 EC cb
            generalize hz : ((q + cnT T k wi (srF T k q) : Nat) : Int) = z at *
            clear hz
            rcases Nat.eq_zero_or_pos q with e0 | e0
            · have i3 : ¬ (0 : Int) < (q : Int) := by clear q1 q2 q3 q4 q9 q10; omega
              have i3' : ¬ (q : Int) > 0 := i3
              clear e0 hd
              gi_wp2_with (gi_at_call 109; (with_reducible refine (callsIn_wide.2 CB.out).mono ?_); rintro e w6 ⟨⟨fo, rfl⟩, dr, hw6⟩; have g6 : Gr wr w6 := (by rw [hw6]; exact (Gr.refl _).drewN _); have J6 := Lib.hid (JJ.out _ wr w6 none HJ.out (grows g6) (fun r e => by cases e)); have K6 := Lib.hid (show Kc K w5 w6 from HKc.out.trans fun p v _ e => g6.cell e); obtain ⟨fn, tmps, assign, body, hy, hR⟩ := YY.out (yls (srF T k) (cI T k wi) q) (srF T k q, cI T k wi (srF T k q)) w6 J6.out YL.out; have hy' : (Instr.yield l #[.int .i64 (srF T k q), .int .i64 (cI T k wi (srF T k q))]).run Tryd.prog w6 = .ok (.round l fn tmps assign body) w6 := hy; have HRR := Lib.hid hR; clear hy hR; clear g6 hw6)
              refine HRR.out.mono ?_
              rintro e W' (⟨rfl, hJ', hk'⟩ | ⟨rfl, hX'⟩)
              · have J7 := Lib.hid hJ'
                have K7 := Lib.hid (K6.out.trans hk')
                rw [← E.out] at J7
                clear hJ' hk'
                gi_wp2
                go_roundw
                case rel => exact ⟨q + 1, hlq, by go_num, J7, K7⟩
                case measure => simp [intOf]; omega
              · have X7 := Lib.hid hX'
                clear hX'
                gi_wp2
                refine bodyPost_ret (results_none rfl _ _ _) rfl ?_
                exact ⟨⟨_, rfl⟩, .inr ⟨_, ⟨q, hlq, rfl⟩, X7.out⟩⟩
            · have i3 : (0 : Int) < (q : Int) := by clear q1 q2 q3 q4 q9 q10; omega
              have i3' : (q : Int) > 0 := i3
              obtain ⟨jq, hjq⟩ : ∃ j, j = q - 1 := ⟨_, rfl⟩
              have q7 : (q : Int) - 1 = (jq : Int) := by clear q1 q2 q3 q4 q9 q10; omega
              have ij : jq < k := by clear q1 q2 q3 q4 q9 q10; omega
              have ij1 : (jq : Int) < (k : Int) := by clear q1 q2 q3 q4 q9 q10; omega
              obtain ⟨q5, q6⟩ := wr64 (x := (q : Int) - 1) (by clear q1 q2 q3 q4 q9 q10; omega)
              replace q5 := q5.trans q7
              replace q6 := q6.trans q7
              have cp := CW.out jq ij
              have ne : (srF T k jq == srF T k q) = false := by
                rw [beq_eq_false_iff_ne]
                exact fun x => hd ⟨e0, by rw [← hjq]; exact x⟩
              clear q7 hd hjq
              gi_wp2_with (gi_at_call 109; (with_reducible refine (callsIn_wide.2 CB.out).mono ?_); rintro e w6 ⟨⟨fo, rfl⟩, dr, hw6⟩; have g6 : Gr wr w6 := (by rw [hw6]; exact (Gr.refl _).drewN _); have J6 := Lib.hid (JJ.out _ wr w6 none HJ.out (grows g6) (fun r e => by cases e)); have K6 := Lib.hid (show Kc K w5 w6 from HKc.out.trans fun p v _ e => g6.cell e); have cp := g6.cell cp; obtain ⟨fn, tmps, assign, body, hy, hR⟩ := YY.out (yls (srF T k) (cI T k wi) q) (srF T k q, cI T k wi (srF T k q)) w6 J6.out YL.out; have hy' : (Instr.yield l #[.int .i64 (srF T k q), .int .i64 (cI T k wi (srF T k q))]).run Tryd.prog w6 = .ok (.round l fn tmps assign body) w6 := hy; have HRR := Lib.hid hR; clear hy hR; clear g6 hw6)
              refine HRR.out.mono ?_
              rintro e W' (⟨rfl, hJ', hk'⟩ | ⟨rfl, hX'⟩)
              · have J7 := Lib.hid hJ'
                have K7 := Lib.hid (K6.out.trans hk')
                rw [← E.out] at J7
                clear hJ' hk'
                gi_wp2
                go_roundw
                case rel => exact ⟨q + 1, hlq, by go_num, J7, K7⟩
                case measure => simp [intOf]; omega
              · have X7 := Lib.hid hX'
                clear hX'
                gi_wp2
                refine bodyPost_ret (results_none rfl _ _ _) rfl ?_
                exact ⟨⟨_, rfl⟩, .inr ⟨_, ⟨q, hlq, rfl⟩, X7.out⟩⟩
        · obtain rfl : q = k := by omega
          have i2 : ¬ (q : Int) < (q : Int) := by omega
          gi_wp2
          go_end0
          first
            | exact ⟨⟨_, rfl⟩, .inl ⟨_, rfl, HJ.out⟩⟩
            | exact ⟨⟨_, rfl⟩, .inl HJ.out⟩

end Go.Proofs.YtjokheeegcilhaaDoor
