/- Contracts of chapter 1: the reference's Parse. -/
import Derived.Test.YtdlbgelidcfmiaaDoorTH
namespace Go.Proofs.YtdlbgelidcfmiaaDoor
open Go.RowKit Go.Firn Go.Shelf

/-- The numbers of a text, by index. -/
def nmF (K : Key) (i : Nat) : Int := (scn K 0).getD i 0
/-- The first loop's state: k numbers are told, behind j signs, and n is the number so far. -/
structure St (K : Key) (j k : Nat) (n : Int) : Prop where
  few : k ≤ 60
  lo : 0 ≤ n
  hi : n ≤ 1000000
  at' : (j ≤ K.length ∧ (scn K 0).drop k = scn (K.drop j) n) ∨ (j = K.length + 1 ∧ (scn K 0).length = k)
theorem St.start (K : Key) : St K 0 0 0 := ⟨by omega, by omega, by omega, .inl ⟨by omega, rfl⟩⟩
theorem St.le {K : Key} {j k : Nat} {n : Int} (h : St K j k n) : j ≤ K.length + 1 := by rcases h.at' with h | h <;> omega
theorem St.dig {K : Key} {j k : Nat} {n : Int} {b : UInt8} (h : St K j k n) (hb : K[j]? = some b) (hd : isDg b = true) : St K (j + 1) k (min (10 * n + ((b.toNat : Int) - 48)) 1000000) := by
  obtain ⟨hl, e⟩ := List.getElem?_eq_some_iff.1 hb
  have hd2 := hd
  unfold isDg at hd2
  simp only [Bool.and_eq_true, decide_eq_true_eq] at hd2
  have h1 := h.lo
  refine ⟨h.few, by omega, by omega, .inl ⟨hl, ?_⟩⟩
  rcases h.at' with ⟨_, ha⟩ | ⟨ha, _⟩
  · rw [ha, List.drop_eq_getElem_cons hl, e]
    conv => lhs; unfold scn
    rw [if_pos hd]
  · omega
theorem drop_one {α : Type} {L : List α} {k : Nat} {x : α} {r : List α} (h : L.drop k = x :: r) : k < L.length ∧ L[k]? = some x ∧ L.drop (k + 1) = r := by
  have hl : k < L.length := by
    rcases Nat.lt_or_ge k L.length with h' | h'
    · exact h'
    · rw [List.drop_eq_nil_of_le h'] at h; cases h
  rw [List.drop_eq_getElem_cons hl] at h
  cases h
  exact ⟨hl, List.getElem?_eq_getElem hl, rfl⟩
theorem St.sep {K : Key} {j k : Nat} {n : Int} {b : UInt8} (h : St K j k n) (hb : K[j]? = some b) (hd : isDg b = false) : nmF K k = n ∧ (k < 60 → St K (j + 1) (k + 1) 0) ∧ k < (scn K 0).length := by
  obtain ⟨hl, e⟩ := List.getElem?_eq_some_iff.1 hb
  rcases h.at' with ⟨_, ha⟩ | ⟨ha, _⟩
  · rw [List.drop_eq_getElem_cons hl, e, scn_sep hd] at ha
    obtain ⟨a1, a2, a3⟩ := drop_one ha
    exact ⟨by simp [nmF, List.getD_eq_getElem?_getD, a2], fun hk => ⟨by omega, by omega, by omega, .inl ⟨hl, a3⟩⟩, a1⟩
  · omega
theorem St.fin {K : Key} {k : Nat} {n : Int} (h : St K K.length k n) : nmF K k = n ∧ (k < 60 → St K (K.length + 1) (k + 1) 0) ∧ k < (scn K 0).length := by
  rcases h.at' with ⟨_, ha⟩ | ⟨ha, _⟩
  · rw [List.drop_length] at ha
    have ha : (scn K 0).drop k = n :: [] := ha
    obtain ⟨a1, a2, a3⟩ := drop_one ha
    have := congrArg List.length a3
    rw [List.length_drop, List.length_nil] at this
    exact ⟨by simp [nmF, List.getD_eq_getElem?_getD, a2], fun hk => ⟨by omega, by omega, by omega, .inr ⟨rfl, by omega⟩⟩, a1⟩
  · omega
theorem prs_len : ∀ N : List Int, (prs N).length = N.length / 2
  | [] => rfl
  | [_] => by simp [prs]
  | a :: b :: r => by
    show (prs r).length + 1 = (r.length + 1 + 1) / 2
    rw [prs_len r]
    omega
theorem prs_at : ∀ (N : List Int) (m : Nat), 2 * m + 1 < N.length → (prs N)[m]? = some (N.getD (2 * m) 0, N.getD (2 * m + 1) 0)
  | [], m, h => by simp at h
  | [_], m, h => by simp at h
  | a :: b :: r, 0, _ => rfl
  | a :: b :: r, m + 1, h => by
    have := prs_at r m (by simp at h; omega)
    show (prs r)[m]? = _
    rw [this]
    rfl
theorem step_app_pair {P : Program} {ops : Array Oper} {o : Oper} {a : Act} {K : Act → World → Prop} {Q : Exit → Act → World → Prop} {E : Prop} (hgd : o.guard = none) (s x : Operand) (t e : TypeId)
    (ho : o.op = .call { callee := .builtin .append, args := #[s, x], argTypes := #[t, t] })
    (ht : P.underlying t = some (.slice e)) (hinfo : (P.info? e).map (fun i => (i.zero, i.size, i.bytes)) = some (some (.agg #[.int .i64 0, .int .i64 0]), 2, 16))
    {w0 w : World} (v : Value) (ms : List (Int × Int)) (hs : a.eval s = v) (hown : OwnM w0 e w v ms)
    (g : Nat) (p q : Int) (hx : a.eval x = .slice (some ⟨g, 0, none⟩) 1 1) (hg : w.cell? ⟨g, 0, none⟩ = some (.int .i64 p) ∧ w.cell? ⟨g, 1, none⟩ = some (.int .i64 q)) (hk : ms.length < 1000000000)
    (h : ∀ v' w', OwnM w0 e w' v' (ms ++ [(p, q)]) → w.grownBy w' v.ownBlock → K (a.put o.dst v') w') :
    if Region.wanted o (yielded ops a.tmps) = true then Oper.wp P o a w K Q else E := by
  have hw : Region.wanted o (yielded ops a.tmps) = true := by simp [Region.wanted, hgd]
  rw [if_pos hw]
  exact wp_app_pair s x t e ho ht hinfo v ms hs hown g p q hx hg hk h
theorem box_iid (w : World) (x y : Int) (e : TypeId) : (w.alloc (.cells #[.int .i64 x, .int .i64 y] e)).drew.cell? ⟨w.heap.size, 0, none⟩ = some (.int .i64 x) ∧ (w.alloc (.cells #[.int .i64 x, .int .i64 y] e)).drew.cell? ⟨w.heap.size, 1, none⟩ = some (.int .i64 y) := box_ii w x y e
theorem info46 : (Tryd.prog.info? 46).map (fun i => (i.zero, i.size, i.bytes)) = some (some (.agg #[.int .i64 0, .int .i64 0]), 2, 16) := by kernel_rfl
theorem prs_next {N : List Int} {m : Nat} (h : 2 * m + 1 < N.length) : (prs N).take (m + 1) = (prs N).take m ++ [(N.getD (2 * m) 0, N.getD (2 * m + 1) 0)] := by
  rw [List.take_add_one, prs_at N m h]
  rfl

set_option maxHeartbeats 8000000 in
set_option maxRecDepth 100000 in
theorem refParse_any (s : ByteArray) (w : World) (hs : s.size ≤ 100000) :
    Calls Tryd.prog 9 #[.string s] w (RetMs (prR s.data.toList).1 (prR s.data.toList).2 w) := by
  have HPf := Lib.hid (show 60 < (scn s.data.toList 0).length → prR s.data.toList = ([], 3) from fun h => by unfold prR; rw [if_pos h])
  have HPo := Lib.hid (show (scn s.data.toList 0).length ≤ 60 → prR s.data.toList = if vMk (prs (scn s.data.toList 0)) = true ∧ txC (prs (scn s.data.toList 0)) = s.data.toList then (prs (scn s.data.toList 0), 0) else ([], 3) from fun h => by unfold prR; rw [if_neg (by omega)])
  have HSz := Lib.hid (size_key s)
  have HBt := Lib.hid (show ∀ (i : Nat) (h : i < s.size), s.data.toList[i]? = some (s[i]'h) from fun _ h => bt_at h)
  have HS := Lib.hid hs
  generalize hK : s.data.toList = K at *
  have HKs := Lib.hid hK
  clear hK hs
  go_enter Tryd.func9, Tryd.ntmps9
  go_wp2_with fail
  go_loopw [4, 5, 6] (fun s4 s5 s6 wr => ∃ (j k : Nat) (n : Int), s6 = .int .i64 j ∧ s5 = .int .i64 n ∧ Hid (OwnI w 3 wr s4 k (nmF K)) ∧ Hid (St K j k n)) (fun _ _ x _ => s.size + 1 - (intOf x).toNat)
  case atStart => exact ⟨0, 0, 0, rfl, rfl, Lib.hid (OwnI.nil' (Gr.refl _) 3 _), Lib.hid (St.start K)⟩
  case round =>
    obtain ⟨j, k, n, rfl, rfl, HO, HJ⟩ := hrel
    obtain ⟨a4, c4, rfl, l1, l2, rd⟩ := HO.out.rd
    have HRI := Lib.hid rd
    clear l1 l2 rd
    have k60 := HJ.out.few
    have n0 := HJ.out.lo
    have n1 := HJ.out.hi
    have w3 : IntKind.i64.wrap ((j : Int) + 1) = ((j + 1 : Nat) : Int) := by rw [IntWalk.i64_in _ (by have := HJ.out.le; have := HS.out; have := HSz.out; omega)]; omega
    by_cases hle : j ≤ s.size
    · have j0 : (j : Int) ≤ (s.size : Int) := by omega
      by_cases hlt : j < s.size
      · have j1 : (j : Int) < (s.size : Int) := by omega
        obtain ⟨b, hb⟩ : ∃ b, K[j]? = some b := ⟨_, HBt.out j hlt⟩
        have hbx : (s[j]'hlt).toNat = b.toNat := by
          have := HBt.out j hlt
          rw [hb] at this
          rw [← Option.some.inj this]
        cases hd : isDg b with
        | true =>
          have hd2 := hd
          unfold isDg at hd2
          simp only [Bool.and_eq_true, decide_eq_true_eq] at hd2
          have HJ2 := Lib.hid (HJ.out.dig hb hd)
          have HLk := Lib.hid hle
          have b1 : (48 : Int) ≤ (b.toNat : Int) := by omega
          have b2 : (b.toNat : Int) ≤ 57 := by omega
          have v1 : IntKind.i64.wrap (10 * n) = 10 * n := IntWalk.i64_in _ (by omega)
          have v2 : IntKind.u8.wrap ((b.toNat : Int) - 48) = (b.toNat : Int) - 48 := IntWalk.u8_in _ (by omega)
          have v3 : IntKind.i64.wrap ((b.toNat : Int) - 48) = (b.toNat : Int) - 48 := IntWalk.i64_in _ (by omega)
          have v4 : IntKind.i64.wrap (10 * n + ((b.toNat : Int) - 48)) = 10 * n + ((b.toNat : Int) - 48) := IntWalk.i64_in _ (by omega)
          clear hd hd2 hb hle
          go_wp2_with fail
          go_roundw
          case rel => exact ⟨j + 1, k, _, by go_num, rfl, HO, HJ2⟩
          case measure => have := HLk.out; simp [intOf]; omega
        | false =>
          have hd2 := hd
          unfold isDg at hd2
          by_cases hlow : 48 ≤ b.toNat
          · have hhigh : ¬ b.toNat ≤ 57 := by intro h; simp [hlow, h] at hd2
            have b1 : (48 : Int) ≤ (b.toNat : Int) := by omega
            have b2 : ¬ (b.toNat : Int) ≤ 57 := by omega
            obtain ⟨f1, f2, f3⟩ := HJ.out.sep hb hd
            by_cases hk6 : 60 ≤ k
            · have HQ := Lib.hid (HPf.out (by omega))
              have k6 : (k : Int) ≥ 60 := by omega
              have HGo := Lib.hid HO.out.2
              clear f1 f2 f3 hk6 HJ HO
              go_wp2_with fail
              rw [HQ.out]
              refine bodyPost_ret (v := .tuple #[.slice none 0 0, .int .i64 3]) (by simp [results, Tryd.results9, go_sem]) rfl ?_
              exact RetMs.none HGo.out 3
            · have HF := Lib.hid f1
              have HJ2 := Lib.hid (f2 (by omega))
              have k6 : ¬ (k : Int) ≥ 60 := by omega
              have k7 : k < 60 := by omega
              have HLk := Lib.hid hle
              clear f1 f2 f3 hk6 hle
              go_wp2_with (at_builtin; (refine wpList_app_int rfl _ _ 34 3 rfl Tryd.underlying34 Tryd.info3 _ k _ rfl (HO.out.gr ((Gr.refl _).alloc _)) _ _ rfl (cell_new1 _ _ _) HF.out (by omega) ?_); intro v1 w4 hown _; have H1 := Lib.hid hown; clear hown)
              go_roundw
              case rel => exact ⟨j + 1, k + 1, 0, by go_num, rfl, H1, HJ2⟩
              case measure => have := HLk.out; simp [intOf]; omega
          · have b1 : ¬ (48 : Int) ≤ (b.toNat : Int) := by omega
            obtain ⟨f1, f2, f3⟩ := HJ.out.sep hb hd
            by_cases hk6 : 60 ≤ k
            · have HQ := Lib.hid (HPf.out (by omega))
              have k6 : (k : Int) ≥ 60 := by omega
              have HGo := Lib.hid HO.out.2
              clear f1 f2 f3 hk6 HJ HO
              go_wp2_with fail
              rw [HQ.out]
              refine bodyPost_ret (v := .tuple #[.slice none 0 0, .int .i64 3]) (by simp [results, Tryd.results9, go_sem]) rfl ?_
              exact RetMs.none HGo.out 3
            · have HF := Lib.hid f1
              have HJ2 := Lib.hid (f2 (by omega))
              have k6 : ¬ (k : Int) ≥ 60 := by omega
              have k7 : k < 60 := by omega
              have HLk := Lib.hid hle
              clear f1 f2 f3 hk6 hle
              go_wp2_with (at_builtin; (refine wpList_app_int rfl _ _ 34 3 rfl Tryd.underlying34 Tryd.info3 _ k _ rfl (HO.out.gr ((Gr.refl _).alloc _)) _ _ rfl (cell_new1 _ _ _) HF.out (by omega) ?_); intro v1 w4 hown _; have H1 := Lib.hid hown; clear hown)
              go_roundw
              case rel => exact ⟨j + 1, k + 1, 0, by go_num, rfl, H1, HJ2⟩
              case measure => have := HLk.out; simp [intOf]; omega
      · obtain rfl : j = s.size := by omega
        have j1 : ¬ (s.size : Int) < (s.size : Int) := by omega
        have hfin := HJ.out
        rw [← HSz.out] at hfin
        obtain ⟨f1, f2, f3⟩ := hfin.fin
        by_cases hk6 : 60 ≤ k
        · have HQ := Lib.hid (HPf.out (by omega))
          have k6 : (k : Int) ≥ 60 := by omega
          have HGo := Lib.hid HO.out.2
          clear f1 f2 f3 hk6 hfin HJ HO
          go_wp2_with fail
          rw [HQ.out]
          refine bodyPost_ret (v := .tuple #[.slice none 0 0, .int .i64 3]) (by simp [results, Tryd.results9, go_sem]) rfl ?_
          exact RetMs.none HGo.out 3
        · have HF := Lib.hid f1
          have HJ2 := Lib.hid (show St K (s.size + 1) (k + 1) 0 by rw [← HSz.out]; exact f2 (by omega))
          have k6 : ¬ (k : Int) ≥ 60 := by omega
          have k7 : k < 60 := by omega
          clear f1 f2 f3 hk6 hfin hle
          go_wp2_with (at_builtin; (refine wpList_app_int rfl _ _ 34 3 rfl Tryd.underlying34 Tryd.info3 _ k _ rfl (HO.out.gr ((Gr.refl _).alloc _)) _ _ rfl (cell_new1 _ _ _) HF.out (by omega) ?_); intro v1 w4 hown _; have H1 := Lib.hid hown; clear hown)
          go_roundw
          case rel => exact ⟨s.size + 1, k + 1, 0, by go_num, rfl, H1, HJ2⟩
          case measure => simp [intOf]
    · have j0 : ¬ (j : Int) ≤ (s.size : Int) := by omega
      have HN := Lib.hid (show (scn K 0).length = k by
        rcases HJ.out.at' with ⟨h, _⟩ | ⟨_, h⟩
        · have := HSz.out
          omega
        · exact h)
      have HGw := Lib.hid HO.out.2
      have HQo := Lib.hid (HPo.out (by rw [HN.out]; exact k60))
      have HK6 := Lib.hid k60
      clear HPf HPo HJ HO n0 n1 w3 hle HSz HBt k60
      generalize wr = w1 at *
      go_wp2_with fail
      go_loopw [7, 8] (fun s7 s8 wr => ∃ i m : Nat, s8 = .int .i64 i ∧ Hid (i = 2 * m ∧ i ≤ k + 1) ∧ Hid (OwnM w1 46 wr s7 ((prs (scn K 0)).take m))) (fun _ x _ => k + 2 - (intOf x).toNat)
      case atStart => exact ⟨0, 0, rfl, Lib.hid ⟨rfl, by omega⟩, Lib.hid (OwnM.nil (w := w1) 46)⟩
      case round =>
        obtain ⟨i, m, rfl, HI, HO⟩ := hrel
        have w4 : IntKind.i64.wrap ((i : Int) + 1) = (i : Int) + 1 := IntWalk.i64_in _ (by have := HI.out.2; have := HK6.out; omega)
        by_cases hlt : i + 1 < k
        · have i1 : (i : Int) + 1 < (k : Int) := by omega
          have i2 : (i : Int) < (k : Int) := by omega
          have i3 : (0 : Int) ≤ (i : Int) := by omega
          have i4 : (0 : Int) ≤ (i : Int) + 1 := by omega
          have i5 : ((i : Int) + 1).toNat = i + 1 := by omega
          have w5 : IntKind.i64.wrap ((i : Int) + 2) = ((i + 2 : Nat) : Int) := by rw [IntWalk.i64_in _ (by have := HK6.out; omega)]; omega
          obtain ⟨b, o, rfl, hc⟩ := HRI.out.at (show i < k by omega)
          have d0 := Lib.hid (hc i (by omega))
          have d1 := Lib.hid (hc (i + 1) hlt)
          have c0 := HO.out.2.cell d0.out
          have c1 := HO.out.2.cell d1.out
          have HNx := Lib.hid (show (prs (scn K 0)).take (m + 1) = (prs (scn K 0)).take m ++ [(nmF K i, nmF K (i + 1))] by
            have e := HI.out.1
            subst e
            exact prs_next (by rw [HN.out]; exact hlt))
          have HKl := Lib.hid (show ((prs (scn K 0)).take m).length < 1000000000 by rw [List.length_take, prs_len, HN.out]; have := HK6.out; omega)
          have HI2 := Lib.hid (show i + 2 = 2 * (m + 1) ∧ i + 2 ≤ k + 1 from ⟨by have := HI.out.1; omega, by omega⟩)
          clear hc hlt
          generalize hM : (prs (scn K 0)).take (m + 1) = M2 at *
          have HM2 := Lib.hid hM
          clear hM
          generalize (prs (scn K 0)).take m = M1 at *
          generalize nmF K i = x at *
          generalize nmF K (i + 1) = y at *
          go_wp2_with fail
          go_region_held3 (fun w' => w'.cell? ⟨b, o + (i + 1), none⟩ = some (.int .i64 y) ∧ w'.cell? ⟨b, o + i, none⟩ = some (.int .i64 x))
            (first | go_keep | exact ⟨H1.out.2.cell d1.out, H1.out.2.cell d0.out⟩)
            ((refine step_app_pair rfl _ _ 22 46 rfl Tryd.underlying22 info46 _ _ rfl (HO.out.alloc _).drew _ _ _ rfl (box_iid _ _ _ 46) HKl.out ?_; intro v1 w6 hown _; have H1 := Lib.hid hown; clear hown))
          go_wp2_with fail
          go_roundw
          case rel => exact ⟨i + 2, m + 1, by go_num, HI2, Lib.hid (by rw [HM2.out, HNx.out]; exact H1.out)⟩
          case measure => have := HI2.out.2; simp [intOf]; omega
        · have i1 : ¬ (i : Int) + 1 < (k : Int) := by omega
          have hOR := HO.out
          rw [List.take_of_length_le (by rw [prs_len, HN.out]; have := HI.out.1; omega)] at hOR
          obtain ⟨a', c', rfl, l1, l2, rd⟩ := hOR.rd
          have HG := Lib.hid (HGw.out.trans hOR.2)
          have hRl : (prs (scn K 0)).length ≤ 9223372036854775807 := by rw [prs_len, HN.out]; have := HK6.out; omega
          generalize prs (scn K 0) = R at *
          have C14 := Lib.hid (show Calls Tryd.prog 14 #[.slice a' R.length c'] wr (RetB (vMk R) wr) from refValidClock_any a' R.length c' (px R) (py R) wr hRl rd)
          have HRD := Lib.hid rd
          have HLL := Lib.hid (And.intro l1 l2)
          clear hOR HO rd l1 l2 hRl HRI
          cases hv : vMk R with
          | false =>
            rw [hv] at C14
            have HQ := Lib.hid (show prR K = ([], 3) by rw [HQo.out, if_neg (by rw [hv]; simp)])
            clear hv HQo
            go_wp2_with (go_at_call 14; (with_reducible refine C14.out.mono ?_); rintro e w5 ⟨rfl, g5⟩; have G5 := Lib.hid g5; clear g5 C14)
            rw [HQ.out]
            refine bodyPost_ret (v := .tuple #[.slice none 0 0, .int .i64 3]) (by simp [results, Tryd.results9, go_sem]) rfl ?_
            exact RetMs.none (HG.out.trans G5.out) 3
          | true =>
            rw [hv] at C14
            have C15 := Lib.hid (fun wx (q : Gr wr wx) => reftext_any a' c' R wx hv (HRD.out.gr q))
            cases hcmp : ((bA (txC R)).toList == s.toList) with
            | true =>
              have HQ := Lib.hid (show prR K = (R, 0) by
                refine HQo.out.trans (if_pos ⟨hv, ?_⟩)
                have : (bA (txC R)).toList = s.toList := by simpa using hcmp
                rw [ByteArray.toList_eq, ByteArray.toList_eq] at this
                exact this.trans HKs.out)
              clear hv HQo
              generalize bA (txC R) = T at *
              go_wp2_with (first
                | (go_at_call 14; (with_reducible refine C14.out.mono ?_); rintro e w5 ⟨rfl, g5⟩; have G5 := Lib.hid g5; clear g5 C14)
                | (go_at_call 15; (with_reducible refine (C15.out _ G5.out).mono ?_); rintro e w6 ⟨rfl, g6⟩; have G6 := Lib.hid (G5.out.trans g6); clear g6 C15))
              rw [HQ.out]
              refine bodyPost_ret (v := .tuple #[.slice a' R.length c', .int .i64 0]) (by simp [results, Tryd.results9, go_sem]) rfl ?_
              exact ⟨a', c', rfl, HLL.out.1, HLL.out.2, HRD.out.gr G6.out, HG.out.trans G6.out⟩
            | false =>
              have HQ := Lib.hid (show prR K = ([], 3) by
                rw [HQo.out, if_neg]
                rintro ⟨_, e⟩
                have : (bA (txC R)).toList = s.toList := by rw [ByteArray.toList_eq, ByteArray.toList_eq]; exact e.trans HKs.out.symm
                rw [this] at hcmp
                simp at hcmp)
              clear hv HQo
              generalize bA (txC R) = T at *
              go_wp2_with (first
                | (go_at_call 14; (with_reducible refine C14.out.mono ?_); rintro e w5 ⟨rfl, g5⟩; have G5 := Lib.hid g5; clear g5 C14)
                | (go_at_call 15; (with_reducible refine (C15.out _ G5.out).mono ?_); rintro e w6 ⟨rfl, g6⟩; have G6 := Lib.hid (G5.out.trans g6); clear g6 C15))
              rw [HQ.out]
              refine bodyPost_ret (v := .tuple #[.slice none 0 0, .int .i64 3]) (by simp [results, Tryd.results9, go_sem]) rfl ?_
              exact RetMs.none (HG.out.trans G6.out) 3
end Go.Proofs.YtdlbgelidcfmiaaDoor
