/- Contracts of chapter 9: which sums are valid, by the program and by the reference. -/
import Derived.Test.YtehdemcfeoiecaaDoorW1
namespace Go.Proofs.YtehdemcfeoiecaaDoor
open Go.RowKit Go.Firn Go.Shelf

/-- What the sorted test and the tokens' test say together. -/
theorem isTk_split (s : ByteArray) : isTk s = (decide (s.size ≤ 12) && s.data.toList.all (fun b => tokB.data.toList.contains b) && srtB s) := by
  have hb : ∀ i, i < s.size → ∃ b, s.data.toList[i]? = some b ∧ b.toNat = bt s i := fun i hi => by
    have hl : i < s.data.toList.length := by simpa using hi
    exact ⟨s.data.toList[i], List.getElem?_eq_getElem hl, by unfold bt; rw [List.getD_eq_getElem?_getD, List.getElem?_eq_getElem hl]; rfl⟩
  rw [Bool.eq_iff_iff]
  unfold isTk tkK srtB
  simp only [Bool.and_eq_true, List.all_eq_true, decide_eq_true_eq, List.mem_range]
  constructor
  · rintro ⟨h1, h2⟩
    refine ⟨⟨h2, fun b hb' => ?_⟩, fun i hi => ?_⟩
    · obtain ⟨i, hi, rfl⟩ := List.getElem_of_mem hb'
      have hi' : i < s.size := by simpa using hi
      have t := h1 i hi'
      unfold tkAt at t
      obtain ⟨b, e1, e2⟩ := hb i hi'
      rw [List.getElem?_eq_getElem hi] at e1
      cases e1
      rw [tok_has, e2]
      simp only [Bool.and_eq_true, decide_eq_true_eq] at t ⊢
      exact t.1
    · have t := h1 (i + 1) (by omega)
      unfold tkAt at t
      simp only [Bool.and_eq_true, Bool.or_eq_true, decide_eq_true_eq] at t
      have := t.2
      rw [show i + 1 - 1 = i by omega] at this
      omega
  · rintro ⟨⟨h2, h3⟩, h4⟩
    refine ⟨fun i hi => ?_, h2⟩
    obtain ⟨b, e1, e2⟩ := hb i hi
    have := h3 b (List.mem_of_getElem? e1)
    rw [tok_has, e2] at this
    unfold tkAt
    simp only [Bool.and_eq_true, Bool.or_eq_true, decide_eq_true_eq] at this ⊢
    refine ⟨this, ?_⟩
    by_cases h0 : i = 0
    · exact .inl h0
    · right
      have := h4 (i - 1) (by omega)
      rw [show i - 1 + 1 = i by omega] at this
      exact this

/-- Trim at the tokens. -/
theorem Trim_any (s : ByteArray) (hs : s.size ≤ 9223372036854775807) (w : World) :
    Calls Tryd.prog 67 #[.string s, .string ⟨#[97, 98, 99, 100, 101, 102, 103, 104]⟩] w fun e w' => (∃ z : ByteArray, e = .returned (.string z) ∧ z.toList.isEmpty = s.data.toList.all (fun b => tokB.data.toList.contains b)) ∧ Gr w w' := by
  refine (Any.strings_Trim_laid Tryd.trim (by kernel_rfl) s tokB w hs (by decide) (ascii_of_all (by decide))).mono fun e w' ⟨h1, h2⟩ => ⟨⟨_, h1, ?_⟩, h2⟩
  rw [Bool.eq_iff_iff, List.all_eq_true, List.isEmpty_iff, Lib.toList_data]
  exact trim_all _ _

theorem box2 (w : World) (s : ByteArray) (m : Int) (t : TypeId) : (w.alloc (.cells #[.string s, .int .i64 m] t)).cell? ⟨w.heap.size, 0, none⟩ = some (.string s) ∧ (w.alloc (.cells #[.string s, .int .i64 m] t)).cell? ⟨w.heap.size, 1, none⟩ = some (.int .i64 m) := by
  constructor <;> simp [World.cell?_alloc_new]

set_option maxHeartbeats 2000000 in
set_option maxRecDepth 100000 in
theorem isProduct_any (s : ByteArray) (m : Int) (hs : s.size ≤ 9223372036854775807) (w : World) : Calls Tryd.prog 43 #[.agg #[.string s, .int .i64 m]] w (RetB (isPr s m) w) := by
  obtain ⟨z0, z1⟩ := box2 w s m 34
  have G0 := Lib.hid ((Gr.refl w).alloc (.cells #[.string s, .int .i64 m] 34))
  obtain ⟨b, cp, W1, hconv, g1, _, _, hcp, hc⟩ := conv_bytes (P := Tryd.prog) (src := 9) (dst := 56) Tryd.underlying9 Tryd.underlying56 Tryd.underlying5 s (w.alloc (.cells #[.string s, .int .i64 m] 34))
  have G1 := Lib.hid (G0.out.trans g1)
  have y0 := g1.cell z0
  have y1 := g1.cell z1
  have E0 : isPr s m = (decide (s.size ≤ 12) && s.data.toList.all (fun b => tokB.data.toList.contains b) && srtB s && btw 1 m 100000) := by unfold isPr; rw [isTk_split]
  have CT := Lib.hid (fun w' => Trim_any s hs w')
  have CS := Lib.hid (fun w' (k : Gr W1 w') => IsSorted_any s b cp hs w' (fun j hj => k.cell (hc j hj).1))
  have CB := Lib.hid (fun w' => between_any 1 m 100000 w')
  have SZ := Lib.hid hs
  generalize s.data.toList.all (fun b => tokB.data.toList.contains b) = tt at *
  generalize srtB s = ss at *
  generalize btw 1 m 100000 = bb at *
  have E := Lib.hid E0
  clear E0 hc hs
  by_cases h12 : s.size ≤ 12
  · have i1 : (s.size : Int) ≤ 12 := by omega
    have E1 := Lib.hid (show isPr s m = (tt && ss && bb) by rw [E.out, decide_eq_true h12]; simp)
    clear E h12
    cases tt with
    | false =>
      have E2 := Lib.hid (show isPr s m = false by rw [E1.out]; rfl)
      go_enter Tryd.func43, Tryd.ntmps43
      go_wp2_with (first
        | (go_at_call 67; (with_reducible refine (CT.out _).mono ?_); rintro e w2 ⟨⟨z, rfl, hz⟩, g2⟩; have G2 := Lib.hid (G1.out.trans g2)))
      go_ret
      rw [E2.out]
      exact ⟨rfl, G2.out⟩
    | true =>
      cases ss with
      | false =>
        have E2 := Lib.hid (show isPr s m = false by rw [E1.out]; rfl)
        go_enter Tryd.func43, Tryd.ntmps43
        go_wp2_with (first
          | (go_at_call 67; (with_reducible refine (CT.out _).mono ?_); rintro e w2 ⟨⟨z, rfl, hz⟩, g2⟩; have G2 := Lib.hid (G1.out.trans g2); have K2 := Lib.hid g2; have hz4 : z.toList = [] := List.isEmpty_iff.1 hz)
          | (go_at_call 68; (with_reducible refine (CS.out _ K2.out).mono ?_); rintro e w3 h3; obtain ⟨rfl, g3⟩ := h3.b; have G3 := Lib.hid (G2.out.trans g3); clear h3))
        go_ret
        rw [E2.out]
        exact ⟨rfl, G3.out⟩
      | true =>
        have E2 := Lib.hid (show isPr s m = bb by rw [E1.out]; rfl)
        go_enter Tryd.func43, Tryd.ntmps43
        go_wp2_with (first
          | (go_at_call 67; (with_reducible refine (CT.out _).mono ?_); rintro e w2 ⟨⟨z, rfl, hz⟩, g2⟩; have G2 := Lib.hid (G1.out.trans g2); have K2 := Lib.hid g2; have hz4 : z.toList = [] := List.isEmpty_iff.1 hz; have y0 := g2.cell y0; have y1 := g2.cell y1)
          | (go_at_call 68; (with_reducible refine (CS.out _ K2.out).mono ?_); rintro e w3 h3; obtain ⟨rfl, g3⟩ := h3.b; have G3 := Lib.hid (G2.out.trans g3); have y0 := g3.cell y0; have y1 := g3.cell y1; clear h3)
          | (go_at_call 58; (with_reducible refine (CB.out _).mono ?_); rintro e w4 ⟨rfl, rfl⟩))
        go_ret
        rw [E2.out]
        exact ⟨rfl, G3.out⟩
  · have i1 : ¬ (s.size : Int) ≤ 12 := by omega
    have E2 := Lib.hid (show isPr s m = false by rw [E.out, decide_eq_false h12]; simp)
    clear E h12
    go_enter Tryd.func43, Tryd.ntmps43
    go_wp2_with fail
    go_ret
    rw [E2.out]
    exact ⟨rfl, G1.out⟩

set_option maxHeartbeats 1000000 in
theorem refValidSum_any (a : Option Addr) (n c : Nat) (f : Nat → ByteArray) (g : Nat → Int) (w : World) (hn : n ≤ 9223372036854775807) (hz : ∀ i, i < n → (f i).size ≤ 9223372036854775807) (hr : RdS w a n f g) :
    Calls Tryd.prog 20 #[.slice a n c] w (RetB (vS f g n) w) := by
  have HR := Lib.hid hr
  have HZ := Lib.hid hz
  clear hr hz
  go_enter Tryd.func20, Tryd.ntmps20
  go_wp2
  go_loopw [7] (fun si wr => ∃ k : Nat, k ≤ n ∧ si = .int .i64 k ∧ Hid (vsK f g k = true) ∧ Hid (Gr w wr)) (fun si _ => n - (intOf si).toNat)
  case atStart => exact ⟨0, Nat.zero_le _, rfl, vsK_zero f g, Gr.refl w⟩
  case round =>
    obtain ⟨k, hk, rfl, hK, hG⟩ := hrel
    by_cases hlt : k < n
    · have i1 : (k : Int) < (n : Int) := by omega
      obtain ⟨b, o, rfl, hc⟩ := (HR.out.gr hG.out).at hlt
      obtain ⟨k0, k1⟩ := hc k hlt
      have CT := Lib.hid (fun w1 => isTokens_any (f k) (HZ.out k hlt) w1)
      unfold RetQ at CT
      have GB := Lib.hid (hG.out.alloc (.cells #[.string (f k), .int .i64 (g k)] 34))
      obtain ⟨z0, z1⟩ := box2 wr (f k) (g k) 34
      by_cases hk0 : k = 0
      · have E := Lib.hid (show vsAt f g k = (isTk (f k) && btw 1 (g k) 100000) by unfold vsAt isPr; rw [decide_eq_true hk0]; simp)
        have KS := Lib.hid (show vsAt f g k = true → vsK f g (k + 1) = true from fun h => by rw [vsK_succ, hK.out, h]; rfl)
        have KF := Lib.hid (show vsAt f g k = false → vS f g n = false from fun h => by unfold vS; rw [vsK_stop hlt h]; rfl)
        have k00 : ¬ 0 < k := by omega
        have k01 : decide ((0 : Int) < (k : Int)) = false := by simp; omega
        clear hc hK hk0
        generalize f k = s at *
        generalize g k = m at *
        generalize isTk s = tk at *
        generalize vsAt f g k = v at *
        cases tk with
        | false =>
          have F := Lib.hid (KF.out (by rw [E.out]; rfl))
          go_wp2_with fail
          go_quiet ((go_at_call 44; with_reducible exact Calls.quiet_of (CT.out _)))
          go_wp2_with fail
          go_ret
          rw [F.out]
          exact ⟨rfl, GB.out.drewN _⟩
        | true =>
          by_cases h1 : m < 1
          · have F := Lib.hid (KF.out (by rw [E.out]; unfold btw; rw [decide_eq_false (by omega)]; rfl))
            have d1 : decide (m < 1) = true := by simpa using h1
            clear h1 KF KS
            go_wp2_with fail
            go_quiet ((go_at_call 44; with_reducible exact Calls.quiet_of (CT.out _)))
            go_wp2_with fail
            go_ret
            rw [F.out]
            exact ⟨rfl, GB.out.drewN _⟩
          by_cases h2 : 100000 < m
          · have F := Lib.hid (KF.out (by rw [E.out]; unfold btw; rw [decide_eq_false (show ¬ m ≤ 100000 by omega)]; simp))
            have d1 : decide (m < 1) = false := by simpa using h1
            have d2 : decide (100000 < m) = true := by simpa using h2
            clear h1 h2 KF KS
            go_wp2_with fail
            go_quiet ((go_at_call 44; with_reducible exact Calls.quiet_of (CT.out _)))
            go_wp2_with fail
            go_ret
            rw [F.out]
            exact ⟨rfl, GB.out.drewN _⟩
          have F := Lib.hid (KS.out (by rw [E.out]; unfold btw; rw [decide_eq_true (show 1 ≤ m by omega), decide_eq_true (show m ≤ 100000 by omega)]; rfl))
          have d1 : decide (m < 1) = false := by simpa using h1
          have d2 : decide (100000 < m) = false := by simpa using h2
          clear h1 h2 KF KS
          go_wp2_with fail
          go_quiet ((go_at_call 44; with_reducible exact Calls.quiet_of (CT.out _)))
          go_wp2_with fail
          go_roundw
          case rel => exact ⟨k + 1, hlt, by go_num, F, GB.out.drewN _⟩
          case measure => simp [intOf]; omega
      · obtain ⟨j, hj⟩ : ∃ j, k = j + 1 := ⟨k - 1, by omega⟩
        have hjn : j < n := by omega
        have kp := (Gr.refl wr).alloc (.cells #[.string (f k), .int .i64 (g k)] 34) |>.cell (hc j hjn).1
        have E := Lib.hid (show vsAt f g k = (isTk (f k) && btw 1 (g k) 100000 && bLt (f j) (f k)) by unfold vsAt isPr; rw [decide_eq_false hk0, show k - 1 = j by omega]; rfl)
        have KS := Lib.hid (show vsAt f g k = true → vsK f g (k + 1) = true from fun h => by rw [vsK_succ, hK.out, h]; rfl)
        have KF := Lib.hid (show vsAt f g k = false → vS f g n = false from fun h => by unfold vS; rw [vsK_stop hlt h]; rfl)
        have k00 : 0 < k := by omega
        have q1 : (k : Int) - 1 = (j : Int) := by omega
        have q2 : IntKind.i64.wrap ((k : Int) - 1) = (j : Int) := by rw [q1]; exact IntWalk.i64_in _ (by omega)
        have j1 : (j : Int) < (n : Int) := by omega
        have LT := bLt_cases (f j) (f k)
        unfold bLt at LT
        have EB : bLt (f j) (f k) = Op.bytesLess (f j).toList (f k).toList := rfl
        rw [EB] at E
        clear hc hK hk0 hj EB
        generalize f k = s at *
        generalize f j = p at *
        generalize g k = m at *
        generalize isTk s = tk at *
        generalize vsAt f g k = v at *
        cases tk with
        | false =>
          have F := Lib.hid (KF.out (by rw [E.out]; rfl))
          go_wp2_with fail
          go_quiet ((go_at_call 44; with_reducible exact Calls.quiet_of (CT.out _)))
          go_wp2_with fail
          go_ret
          rw [F.out]
          exact ⟨rfl, GB.out.drewN _⟩
        | true =>
          by_cases h1 : m < 1
          · have F := Lib.hid (KF.out (by rw [E.out]; unfold btw; rw [decide_eq_false (by omega)]; rfl))
            have d1 : decide (m < 1) = true := by simpa using h1
            clear h1 KF KS
            go_wp2_with fail
            go_quiet ((go_at_call 44; with_reducible exact Calls.quiet_of (CT.out _)))
            go_wp2_with fail
            go_ret
            rw [F.out]
            exact ⟨rfl, GB.out.drewN _⟩
          by_cases h2 : 100000 < m
          · have F := Lib.hid (KF.out (by rw [E.out]; unfold btw; rw [decide_eq_false (show ¬ m ≤ 100000 by omega)]; simp))
            have d1 : decide (m < 1) = false := by simpa using h1
            have d2 : decide (100000 < m) = true := by simpa using h2
            clear h1 h2 KF KS
            go_wp2_with fail
            go_quiet ((go_at_call 44; with_reducible exact Calls.quiet_of (CT.out _)))
            go_wp2_with fail
            go_ret
            rw [F.out]
            exact ⟨rfl, GB.out.drewN _⟩
          have F := Lib.hid (show v = Op.bytesLess p.toList s.toList by rw [E.out]; unfold btw; rw [decide_eq_true (show 1 ≤ m by omega), decide_eq_true (show m ≤ 100000 by omega)]; simp)
          have d1 : decide (m < 1) = false := by simpa using h1
          have d2 : decide (100000 < m) = false := by simpa using h2
          clear h1 h2
          rcases LT with ⟨a1, a2, a3⟩ | ⟨a1, a2, a3⟩ | ⟨a1, a2, a3⟩
          · have F2 := Lib.hid (KS.out (by rw [F.out, a1]))
            go_wp2_with fail
            go_quiet ((go_at_call 44; with_reducible exact Calls.quiet_of (CT.out _)))
            go_wp2_with fail
            go_roundw
            case rel => exact ⟨k + 1, hlt, by go_num, F2, GB.out.drewN _⟩
            case measure => simp [intOf]; omega
          · have F2 := Lib.hid (KF.out (by rw [F.out, a1]))
            go_wp2_with fail
            go_quiet ((go_at_call 44; with_reducible exact Calls.quiet_of (CT.out _)))
            go_wp2_with fail
            go_ret
            rw [F2.out]
            exact ⟨rfl, GB.out.drewN _⟩
          · have F2 := Lib.hid (KF.out (by rw [F.out, a1]))
            go_wp2_with fail
            go_quiet ((go_at_call 44; with_reducible exact Calls.quiet_of (CT.out _)))
            go_wp2_with fail
            go_ret
            rw [F2.out]
            exact ⟨rfl, GB.out.drewN _⟩
    · obtain rfl : k = n := by omega
      have i1 : ¬ (k : Int) < (k : Int) := by omega
      have E := Lib.hid (show vS f g k = decide ((k : Int) ≤ 40) by unfold vS; rw [hK.out, Bool.true_and]; congr 1; apply propext; omega)
      go_wp2_with fail
      go_ret
      rw [E.out]
      exact ⟨rfl, hG.out⟩

end Go.Proofs.YtehdemcfeoiecaaDoor
