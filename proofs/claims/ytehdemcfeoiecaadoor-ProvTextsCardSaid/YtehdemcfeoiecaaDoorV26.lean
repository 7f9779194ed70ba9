/- Contracts of chapter 9: the program's own Parse. -/
import Derived.Test.YtehdemcfeoiecaaDoorVX
import Derived.Test.YtehdemcfeoiecaaDoorVW
namespace Go.Proofs.YtehdemcfeoiecaaDoor
open Go.RowKit Go.Firn Go.Shelf Go.Maps Go.WideMaps
attribute [local go_sem] Oper.semAt_some
attribute [local simp] wide_fn

/-- What the program's Parse answers. -/
def prO (K : Key) : SL × Int := if K = [48] then ([], 0) else if 760 < K.length then ([], 3) else if vL (rdsO K) = true ∧ txL (rdsO K) = K then (rdsO K, 0) else ([], 3)

theorem heap_gr {W W' : World} {D : Nat} {o : Obj} (h : W.heap[D]? = some o) (g : Gr W W') : W'.heap[D]? = some o :=
  (Below.block g D (Array.getElem?_eq_some_iff.1 h).1).trans h
theorem gr_put {w W : World} {D : Nat} (g : Gr w W) (hD : w.heap.size ≤ D) : Gr w (W.putObj D (.deferred none)) :=
  g.grown (grownBy_putObj' W D _) (fun k er => by cases er; omega)
theorem own_put {W : World} {base n D : Nat} {v : Value} {xs : List Value} (h : W.ownsRow base 34 2 v n xs) (hd : W.heap[D]? = some (.deferred (some []))) : (W.putObj D (.deferred none)).ownsRow base 34 2 v n xs :=
  h.kept (grownBy_putObj' W D _) (by
    cases hv : v.ownBlock with
    | none => exact .inl rfl
    | some b =>
      right
      intro e
      obtain ⟨o, ho, hc, _⟩ := own_not h hv
      cases e
      rw [hd] at ho
      cases ho
      simp [Obj.isCells] at hc)
set_option maxHeartbeats 8000000 in
set_option maxRecDepth 100000 in
theorem Parse_in (s : ByteArray) (w : World) (hs : s.size ≤ 760) (h48 : (s.toList == [48]) = false) (hT : Pow10 w) (hE : Errs w) :
    Calls Tryd.prog 30 #[.string s] w (RetSE (prO s.data.toList).1 (prO s.data.toList).2 w) := by
  have hbt : s.data.toList = s.toList := (ByteArray.toList_eq s).symm
  have e48 : s.data.toList ≠ [48] := by
    rw [hbt]
    intro e
    rw [e] at h48
    simp at h48
  have HP := Lib.hid (show prO s.data.toList = if vL (rdsO s.data.toList) = true ∧ txL (rdsO s.data.toList) = s.data.toList then (rdsO s.data.toList, 0) else ([], 3) by
    unfold prO
    rw [if_neg e48, if_neg (by rw [size_key]; omega)])
  have HS := Lib.hid hs
  have HT := Lib.hid hT
  have HE := Lib.hid hE
  have i7 : ¬ ((s.size : Int) > 760) := by omega
  clear hbt e48 hs hT hE
  refine (callsIn_wide (n := 3)).1 ?_
  refine callsIn_of_wp_marks Tryd.func30 rfl trivial ?_ rfl
  simp only [Tryd.ntmps30, List.size_toArray, List.length_cons, List.length_nil, Nat.reduceAdd, Nat.reduceSub, Array.replicate_succ, Array.replicate_zero, List.push_toArray, List.append_toArray, List.nil_append, List.cons_append]
  gi_wp2_with (gi_at_call 51; refine (callsIn_wide.2 (SplitSeq_any _ _ _)).mono ?_; rintro e w4 ⟨rfl, rfl⟩)
  have k4 : (w.alloc (.cells #[.slice none 0 0] 22)).cell? ⟨w.heap.size, 0, none⟩ = some (.slice none 0 0) ∧ (w.alloc (.cells #[.slice none 0 0] 22)).frozen? ⟨w.heap.size, 0, none⟩ = false := (Gr.refl _).fresh' rfl rfl
  generalize hW4 : w.alloc (.cells #[.slice none 0 0] 22) = W4 at *
  have S4 : W4.heap.size = w.heap.size + 1 := by rw [← hW4]; simp
  have G4 : Gr w W4 := by rw [← hW4]; exact (Gr.refl w).alloc _
  have k1 : (W4.alloc (.cells #[.string s] 9)).cell? ⟨W4.heap.size, 0, none⟩ = some (.string s) ∧ (W4.alloc (.cells #[.string s] 9)).frozen? ⟨W4.heap.size, 0, none⟩ = false := (Gr.refl _).fresh' rfl rfl
  generalize hW5 : W4.alloc (.cells #[.string s] 9) = W5 at *
  have S5 : W5.heap.size = W4.heap.size + 1 := by rw [← hW5]; simp
  have G5 : Gr W4 W5 := by rw [← hW5]; exact (Gr.refl _).alloc _
  have k2 : (W5.alloc (.cells #[.string ⟨#[43]⟩] 9)).cell? ⟨W5.heap.size, 0, none⟩ = some (.string ⟨#[43]⟩) ∧ (W5.alloc (.cells #[.string ⟨#[43]⟩] 9)).frozen? ⟨W5.heap.size, 0, none⟩ = false := (Gr.refl _).fresh' rfl rfl
  generalize hW6 : W5.alloc (.cells #[.string ⟨#[43]⟩] 9) = W6 at *
  have S6 : W6.heap.size = W5.heap.size + 1 := by rw [← hW6]; simp
  have G6 : Gr W5 W6 := by rw [← hW6]; exact (Gr.refl _).alloc _
  have k3 : (W6.alloc (.cells #[.int .i64 0] 3)).cell? ⟨W6.heap.size, 0, none⟩ = some (.int .i64 0) ∧ (W6.alloc (.cells #[.int .i64 0] 3)).frozen? ⟨W6.heap.size, 0, none⟩ = false := (Gr.refl _).fresh' rfl rfl
  generalize hW7 : W6.alloc (.cells #[.int .i64 0] 3) = W0 at *
  have S7 : W0.heap.size = W6.heap.size + 1 := by rw [← hW7]; simp
  have G7 : Gr W6 W0 := by rw [← hW7]; exact (Gr.refl _).alloc _
  have G0 := Lib.hid (((G4.trans G5).trans G6).trans G7)
  have B4 := Lib.hid (And.intro (G7.cell (G6.cell (G5.cell k4.1))) ((Below.frozen ((G5.trans G6).trans G7) (p := ⟨w.heap.size, 0, none⟩) (World.block_lt_of_cell? _ _ k4.1)).trans k4.2))
  have B1 := Lib.hid (And.intro (G7.cell (G6.cell k1.1)) ((Below.frozen (G6.trans G7) (p := ⟨W4.heap.size, 0, none⟩) (World.block_lt_of_cell? _ _ k1.1)).trans k1.2))
  have B2 := Lib.hid (G7.cell k2.1)
  have B3 := Lib.hid k3.1
  have e1 : W4.heap.size = w.heap.size + 1 := S4
  have e2 : W4.heap.size + 1 = w.heap.size + 1 + 1 := by omega
  have e3 : W4.heap.size + 2 = w.heap.size + 1 + 2 := by omega
  rw [show W5.heap.size = w.heap.size + 1 + 1 by omega] at B2
  rw [show W6.heap.size = w.heap.size + 1 + 2 by omega] at B3
  rw [S4] at B1
  have S0 : W0.heap.size = w.heap.size + 4 := by omega
  clear hW4 hW5 hW6 hW7 k4 k1 k2 k3 G4 G5 G6 G7 S5 S6 S7
  clear S4 e1 e2 e3
  have I0 : Ip w w.heap.size (w.heap.size + 4) [] W0 := ⟨none, 0, B4.out.1, B4.out.2, World.ownsRow_nil _ _ _ _, by omega, G0.out⟩
  refine rangeFunc_wr rfl (by omega) (gf := 110) (lb := #[.pointer (some ⟨w.heap.size + 1 + 1, 0, none⟩), .pointer (some ⟨w.heap.size + 1, 0, none⟩), .pointer (some ⟨w.heap.size + 1 + 2, 0, none⟩)]) rfl trivial (enters_of Tryd.func110 (by kernel_rfl) rfl)
    (splitSeq1_seq _ (by omega) (w.heap.size + 1) (w.heap.size + 1 + 1) (w.heap.size + 1 + 2) (by omega) (by omega) 43 s W0 (by have := HS.out; omega) B2.out B1.out.1 B1.out.2 B3.out)
    Kb.trans (fun W l o o' _ h hc _ => Kb.putObj W l o o' h hc) (fun A B h => h.keeps) (Below.refl _ _) (fun _ => rfl)
    (Ip w w.heap.size (w.heap.size + 4)) (fun _ _ _ => False) (Ip.own (by omega)) (fun pre A B h k => Ip.wb (by omega) (by omega) (by omega) h k) (fun _ _ _ _ _ hs _ _ => hs) I0
    (fun x => { tmps := #[.string s, undef, .slice none 0 0, .int .i64 0, .pointer (some ⟨w.heap.size, 0, none⟩), .string (bA x), undef, undef, undef, .string s, .bool false, .string s, .int .i64 s.size, .bool false, .string s, .func (.func 110) #[] #[.pointer (some ⟨w.heap.size + 1 + 1, 0, none⟩), .pointer (some ⟨w.heap.size + 1, 0, none⟩), .pointer (some ⟨w.heap.size + 1 + 2, 0, none⟩)], .string (bA x), undef, undef, undef, undef, undef, undef, undef, undef, undef, undef, undef, undef, undef, undef, undef, undef, undef, undef, undef, undef, undef, undef, undef, undef, undef, undef, undef], defers := [] }) ?assign ?body ?done ?stop
  case assign =>
    intro l x W K hK
    unfold encK
    gi_wp2
    exact hK
  case body =>
    rintro l pre x W hI hx hl
    obtain ⟨a, c, c1, c2, c3, c4, c5⟩ := id hI
    have HI := Lib.hid hI
    have HX := Lib.hid hx
    have HL := Lib.hid hl
    have C52 := Lib.hid (fun wx => TrimLeft_any x wx)
    have C54 := Lib.hid (fun wx => TrimSuffix_any x hx wx)
    have HTl := Lib.hid (show (x.takeWhile isDg).length ≤ 1000000 from Nat.le_trans (List.takeWhile_sublist _).length_le hx)
    clear hI hx hl
    have BX := Lib.hid (fun (A B : World) (k : Gr W A) (hG : A.grownBy B (Value.slice a pre.length c).ownBlock) => show B.cell? ⟨w.heap.size, 0, none⟩ = some (.slice a pre.length c) ∧ B.frozen? ⟨w.heap.size, 0, none⟩ = false by
      have h := grown_box hG (k.cell c1) (fun e => by obtain ⟨_, _, _, hb⟩ := own_not c3 e; omega)
      exact ⟨h.1, h.2.trans ((Below.frozen k (World.block_lt_of_cell? W _ c1)).trans c2)⟩)
    have HK := Lib.hid (show (pre.map rdO).length < 999999 by rw [List.length_map]; have := HL.out; have := HS.out; omega)
    rcases ha : Lib.atoiAll (x.takeWhile isDg) with v | _ | _
    · have HR := Lib.hid (show rdO x = ((bA (x.dropWhile isDg)).data.toList, v) by unfold rdO; rw [ha]; rfl)
      have BG := Lib.hid (fun (A : World) (k : Gr W A) => k.trans ((Gr.refl A).alloc (.cells #[.string (bA (x.dropWhile isDg)), .int .i64 v] 34)))
      have C53 := Lib.hid (fun wx (k : Gr W wx) => atoi_yes _ v ha HTl.out wx)
      gi_wp2_with (first
        | (gi_at_call 52; (refine (callsIn_wide.2 (C52.out _)).mono ?_); rintro e w1 ⟨rfl, g1⟩; have G1 := Lib.hid g1; have d1 := g1.cell c1; clear g1)
        | (gi_at_call 54; (refine (callsIn_wide.2 (C54.out _)).mono ?_); rintro e w2 ⟨rfl, g2⟩; have G2 := Lib.hid (G1.out.trans g2); have d2 := g2.cell d1; clear g2)
        | (gi_at_call 53; (refine (callsIn_wide.2 (C53.out _ G2.out)).mono ?_); rintro e w3 ⟨rfl, g3⟩; have G3 := Lib.hid (G2.out.trans g3); have d3 := g3.cell d2; clear g3)
        | (gi_at_builtin; go_loud (refine wpListIn_app_prodR rfl _ _ rfl _ (pre.map rdO) rfl (rows_gr c3 (BG.out _ G3.out)) (Nat.le_trans c4 (BG.out _ G3.out).size) _ _ _ rfl (cell_newp _ _ _ _ rfl) HK.out ?_; intro a' c' w5 hO hG; obtain ⟨d5, f5⟩ := BX.out _ _ (BG.out _ G3.out) hG; have HO := Lib.hid hO; have HG := Lib.hid hG; clear hO hG)))
      have hst := Ip.step (bs := w.heap.size + 1) (bp := w.heap.size + 1 + 1) (bv := w.heap.size + 1 + 2) (BG.out _ G3.out) (by omega) (by omega) (by omega) (by omega) (by omega) (by omega) (by omega) (Nat.le_refl _) HI.out c1 c3 HO.out HG.out HR.out
      rw [List.length_map] at hst
      exact hst
    · have HR := Lib.hid (show rdO x = ((bA (x.dropWhile isDg)).data.toList, 1) by unfold rdO; rw [ha]; rfl)
      have BG := Lib.hid (fun (A : World) (k : Gr W A) => k.trans ((Gr.refl A).alloc (.cells #[.string (bA (x.dropWhile isDg)), .int .i64 1] 34)))
      have C53 := Lib.hid (fun wx (k : Gr W wx) => atoi_not _ (fun v e => by rw [ha] at e; cases e) HTl.out wx (HE.out.gr (c5.trans k)))
      gi_wp2_with (first
        | (gi_at_call 52; (refine (callsIn_wide.2 (C52.out _)).mono ?_); rintro e w1 ⟨rfl, g1⟩; have G1 := Lib.hid g1; have d1 := g1.cell c1; clear g1)
        | (gi_at_call 54; (refine (callsIn_wide.2 (C54.out _)).mono ?_); rintro e w2 ⟨rfl, g2⟩; have G2 := Lib.hid (G1.out.trans g2); have d2 := g2.cell d1; clear g2)
        | (gi_at_call 53; (refine (callsIn_wide.2 (C53.out _ G2.out)).mono ?_); rintro e w3 ⟨⟨n0, N0, rfl⟩, g3⟩; have G3 := Lib.hid (G2.out.trans g3); have d3 := g3.cell d2; clear g3)
        | (gi_at_builtin; go_loud (refine wpListIn_app_prodR rfl _ _ rfl _ (pre.map rdO) rfl (rows_gr c3 (BG.out _ G3.out)) (Nat.le_trans c4 (BG.out _ G3.out).size) _ _ _ rfl (cell_newp _ _ _ _ rfl) HK.out ?_; intro a' c' w5 hO hG; obtain ⟨d5, f5⟩ := BX.out _ _ (BG.out _ G3.out) hG; have HO := Lib.hid hO; have HG := Lib.hid hG; clear hO hG)))
      have hst := Ip.step (bs := w.heap.size + 1) (bp := w.heap.size + 1 + 1) (bv := w.heap.size + 1 + 2) (BG.out _ G3.out) (by omega) (by omega) (by omega) (by omega) (by omega) (by omega) (by omega) (Nat.le_refl _) HI.out c1 c3 HO.out HG.out HR.out
      rw [List.length_map] at hst
      exact hst
    · have HR := Lib.hid (show rdO x = ((bA (x.dropWhile isDg)).data.toList, 1) by unfold rdO; rw [ha]; rfl)
      have BG := Lib.hid (fun (A : World) (k : Gr W A) => k.trans ((Gr.refl A).alloc (.cells #[.string (bA (x.dropWhile isDg)), .int .i64 1] 34)))
      have C53 := Lib.hid (fun wx (k : Gr W wx) => atoi_not _ (fun v e => by rw [ha] at e; cases e) HTl.out wx (HE.out.gr (c5.trans k)))
      gi_wp2_with (first
        | (gi_at_call 52; (refine (callsIn_wide.2 (C52.out _)).mono ?_); rintro e w1 ⟨rfl, g1⟩; have G1 := Lib.hid g1; have d1 := g1.cell c1; clear g1)
        | (gi_at_call 54; (refine (callsIn_wide.2 (C54.out _)).mono ?_); rintro e w2 ⟨rfl, g2⟩; have G2 := Lib.hid (G1.out.trans g2); have d2 := g2.cell d1; clear g2)
        | (gi_at_call 53; (refine (callsIn_wide.2 (C53.out _ G2.out)).mono ?_); rintro e w3 ⟨⟨n0, N0, rfl⟩, g3⟩; have G3 := Lib.hid (G2.out.trans g3); have d3 := g3.cell d2; clear g3)
        | (gi_at_builtin; go_loud (refine wpListIn_app_prodR rfl _ _ rfl _ (pre.map rdO) rfl (rows_gr c3 (BG.out _ G3.out)) (Nat.le_trans c4 (BG.out _ G3.out).size) _ _ _ rfl (cell_newp _ _ _ _ rfl) HK.out ?_; intro a' c' w5 hO hG; obtain ⟨d5, f5⟩ := BX.out _ _ (BG.out _ G3.out) hG; have HO := Lib.hid hO; have HG := Lib.hid hG; clear hO hG)))
      have hst := Ip.step (bs := w.heap.size + 1) (bp := w.heap.size + 1 + 1) (bv := w.heap.size + 1 + 2) (BG.out _ G3.out) (by omega) (by omega) (by omega) (by omega) (by omega) (by omega) (by omega) (Nat.le_refl _) HI.out c1 c3 HO.out HG.out HR.out
      rw [List.length_map] at hst
      exact hst
  case done =>
    rintro D ys W hD rfl hI hK
    obtain ⟨a, c, c1, c2, c3, c4, c5⟩ := hI
    have hl : (splitK 43 s.data.toList).length = (rdsO s.data.toList).length := (List.length_map _).symm
    rw [hl] at c1 c3
    replace c3 : W.ownsRow (w.heap.size + 4) 34 2 (.slice a (rdsO s.data.toList).length c) (rdsO s.data.toList).length (pk (rdsO s.data.toList)) := c3
    have hR : ∀ x ∈ rdsO s.data.toList, x.1.length ≤ 760 := by
      intro x hx
      obtain ⟨p, hp, rfl⟩ := List.mem_map.1 hx
      have h1 := piece_le hp
      rw [size_key] at h1
      have h2 : (rdO p).1.length ≤ p.length := (List.dropWhile_sublist _).length_le
      have := HS.out
      omega
    have hRl : (rdsO s.data.toList).length ≤ 761 := by
      rw [← hl]
      have h := split_len 43 s.data.toList
      rw [size_key] at h
      have := HS.out
      omega
    have hdw : w.heap.size ≤ D := by omega
    have HD := Lib.hid hK
    have HDW := Lib.hid hdw
    clear hl hK hdw hD I0 B4 B1 B2 B3 G0
    generalize rdsO s.data.toList = R at *
    obtain ⟨a', c', ev, l1, l2, rd⟩ := rd_own c3
    obtain ⟨rfl, rfl⟩ : a = a' ∧ c = c' := by cases ev; exact ⟨rfl, rfl⟩
    have C19 := Lib.hid (ValidSum_any a R.length c (sx R) (sy R) W (by omega) (fun i hi => by
      have := hR ((sx R i).data.toList, sy R i) (List.mem_of_getElem? (key_sx hi))
      rw [size_key] at this
      omega) rd)
    have HRD := Lib.hid rd
    have HC := Lib.hid c3
    have HW := Lib.hid c5
    clear ev rd hR c3 c5 l1 l2
    cases hv : vL R with
    | false =>
      rw [show vS (sx R) (sy R) R.length = false from hv] at C19
      have HQ := Lib.hid (show prO s.data.toList = ([], 3) by rw [HP.out, if_neg (by rw [hv]; simp)])
      clear hv HP
      gi_wp2_with (gi_at_call 19; (refine (callsIn_wide.2 C19.out).mono ?_); rintro e w5 ⟨rfl, g5⟩; have G5 := Lib.hid g5; have d5 := g5.cell c1; clear g5 C19)
      refine ⟨by simp, .inl ⟨_, _, rfl, run_takeDeferred (heap_gr HD.out G5.out), ?_⟩⟩
      rw [HQ.out]
      exact ⟨_, by simp [results, Tryd.f30, go_sem], RetSE.none (gr_put (HW.out.trans G5.out) HDW.out) 3⟩
    | true =>
      rw [show vS (sx R) (sy R) R.length = true from hv] at C19
      have C49 := Lib.hid (fun wx (k : Gr W wx) => text_any a c R wx (HT.out.gr (HW.out.trans k)) hv (HRD.out.gr k))
      cases hcmp : ((bA (txL R)).toList == s.toList) with
      | true =>
        have HQ := Lib.hid (show prO s.data.toList = (R, 0) by
          refine HP.out.trans (if_pos ⟨hv, ?_⟩)
          have : (bA (txL R)).toList = s.toList := by simpa using hcmp
          rw [ByteArray.toList_eq, ByteArray.toList_eq] at this
          exact this)
        clear hv HP
        generalize bA (txL R) = T at *
        gi_wp2_with (first
          | (gi_at_call 19; (refine (callsIn_wide.2 C19.out).mono ?_); rintro e w5 ⟨rfl, g5⟩; have G5 := Lib.hid g5; have d5 := g5.cell c1; clear g5 C19)
          | (gi_at_call 49; (refine (callsIn_wide.2 (C49.out _ G5.out)).mono ?_); rintro e w6 ⟨rfl, g6⟩; have G6 := Lib.hid (G5.out.trans g6); have d6 := g6.cell d5; clear g6 C49))
        refine ⟨by simp, .inl ⟨_, _, rfl, run_takeDeferred (heap_gr HD.out G6.out), ?_⟩⟩
        rw [HQ.out]
        obtain ⟨a2, c2', ev, l1, l2, rd⟩ := rd_own (own_put (rows_gr HC.out G6.out) (heap_gr HD.out G6.out))
        obtain ⟨rfl, rfl⟩ : a = a2 ∧ c = c2' := by cases ev; exact ⟨rfl, rfl⟩
        exact ⟨.tuple #[.slice a R.length c, .int .i64 0], by simp [results, Tryd.f30, go_sem], a, c, rfl, l1, l2, rd, gr_put (HW.out.trans G6.out) HDW.out⟩
      | false =>
        have HQ := Lib.hid (show prO s.data.toList = ([], 3) by
          rw [HP.out, if_neg]
          rintro ⟨_, e⟩
          have : (bA (txL R)).toList = s.toList := by rw [ByteArray.toList_eq, ByteArray.toList_eq]; exact e
          rw [this] at hcmp
          simp at hcmp)
        clear hv HP
        generalize bA (txL R) = T at *
        gi_wp2_with (first
          | (gi_at_call 19; (refine (callsIn_wide.2 C19.out).mono ?_); rintro e w5 ⟨rfl, g5⟩; have G5 := Lib.hid g5; have d5 := g5.cell c1; clear g5 C19)
          | (gi_at_call 49; (refine (callsIn_wide.2 (C49.out _ G5.out)).mono ?_); rintro e w6 ⟨rfl, g6⟩; have G6 := Lib.hid (G5.out.trans g6); have d6 := g6.cell d5; clear g6 C49))
        refine ⟨by simp, .inl ⟨_, _, rfl, run_takeDeferred (heap_gr HD.out G6.out), ?_⟩⟩
        rw [HQ.out]
        exact ⟨_, by simp [results, Tryd.f30, go_sem], RetSE.none (gr_put (HW.out.trans G6.out) HDW.out) 3⟩
  case stop =>
    rintro D c pre W _ _ h _
    exact h.elim

theorem Parse_any (s : ByteArray) (w : World) (hs : s.size ≤ 9223372036854775807) (hT : Pow10 w) (hE : Errs w) :
    Calls Tryd.prog 30 #[.string s] w (RetSE (prO s.data.toList).1 (prO s.data.toList).2 w) := by
  cases h48 : (s.toList == [48]) with
  | true =>
    have e : s.data.toList = [48] := by rw [← ByteArray.toList_eq]; simpa using h48
    have ep : prO s.data.toList = ([], 0) := by unfold prO; rw [if_pos e]
    rw [ep]
    clear e ep
    go_enter Tryd.func30, Tryd.ntmps30
    go_wp2_with fail
    refine bodyPost_ret (v := .tuple #[.slice none 0 0, .int .i64 0]) (by simp [results, Tryd.results30, go_sem]) rfl ?_
    exact RetSE.none ((Gr.refl w).alloc _) 0
  | false =>
    by_cases hl : s.size ≤ 760
    · exact Parse_in s w hl h48 hT hE
    · have e48 : s.data.toList ≠ [48] := by
        intro e
        rw [ByteArray.toList_eq, e] at h48
        simp at h48
      have ep : prO s.data.toList = ([], 3) := by unfold prO; rw [if_neg e48, if_pos (by rw [size_key]; omega)]
      rw [ep]
      have i7 : (s.size : Int) > 760 := by omega
      clear ep e48 hl hT hE
      go_enter Tryd.func30, Tryd.ntmps30
      go_wp2_with fail
      refine bodyPost_ret (v := .tuple #[.slice none 0 0, .int .i64 3]) (by simp [results, Tryd.results30, go_sem]) rfl ?_
      exact RetSE.none ((Gr.refl w).alloc _) 3

/-! ### The plain law: both readings are one. -/
theorem pr_same (K : Key) : prR K = prO K := by
  unfold prR prO
  by_cases h0 : K = [48]
  · rw [if_pos h0, if_pos h0]
  · rw [if_neg h0, if_neg h0]
    by_cases hR : vL (rdsR K) = true ∧ txL (rdsR K) = K
    · have W := Wds.of hR.1
      have h1 := (reads_of W (rdsR_ne K)).1
      rw [hR.2] at h1
      have hz := W.size
      rw [hR.2] at hz
      rw [if_pos hR, if_neg (by omega), if_pos (by rw [h1]; exact hR), h1]
    · rw [if_neg hR]
      by_cases hl : 760 < K.length
      · rw [if_pos hl]
      · rw [if_neg hl, if_neg]
        intro hO
        have h1 := (reads_of (Wds.of hO.1) (rdsO_ne K)).2
        rw [hO.2] at h1
        apply hR
        rw [h1]
        exact hO
theorem pr_back {L : SL} (h : vL L = true) : prO (txL L) = (L, 0) := by
  by_cases hn : L = []
  · subst hn
    rfl
  · have W := Wds.of h
    have h1 := (reads_of W hn).1
    have hz := W.size
    unfold prO
    rw [if_neg (W.zero hn), if_neg (by omega), if_pos (by rw [h1]; exact ⟨h, rfl⟩), h1]
theorem pr_text {K : Key} (h : (prO K).2 = 0) : txL (prO K).1 = K ∧ vL (prO K).1 = true := by
  unfold prO at h ⊢
  by_cases h0 : K = [48]
  · rw [if_pos h0, h0]
    exact ⟨rfl, by decide⟩
  · rw [if_neg h0] at h ⊢
    by_cases hl : 760 < K.length
    · rw [if_pos hl] at h
      simp at h
    · rw [if_neg hl] at h ⊢
      by_cases hO : vL (rdsO K) = true ∧ txL (rdsO K) = K
      · rw [if_pos hO]
        exact ⟨hO.2, hO.1⟩
      · rw [if_neg hO] at h
        simp at h
theorem pr_code (K : Key) : (prO K).2 = 0 ∨ ((prO K).2 = 3 ∧ (prO K).1 = []) := by
  unfold prO
  split
  · exact .inl rfl
  · split
    · exact .inr ⟨rfl, rfl⟩
    · split
      · exact .inl rfl
      · exact .inr ⟨rfl, rfl⟩
end Go.Proofs.YtehdemcfeoiecaaDoor
