/- Contracts of chapter 1: the program's own Parse. -/
import Derived.Test.YtdlbgelidcfmiaaDoorTG
namespace Go.Proofs.YtdlbgelidcfmiaaDoor
open Go.RowKit Go.Firn Go.Shelf
attribute [local go_sem] Oper.semAt_some
attribute [local simp] wide_fn

theorem piece_of {s : ByteArray} {p : Key} (h : p ∈ splitK 32 s.data.toList) : p.length ≤ s.size := by
  have := piece_le h
  rwa [size_key] at this
theorem split_few (s : ByteArray) : (splitK 32 s.data.toList).length ≤ s.size + 1 := by
  have := split_len 32 s.data.toList
  rwa [size_key] at this
theorem row_put {W : World} {base n D : Nat} {v : Value} {xs : List Value} (h : W.ownsRow base 46 2 v n xs) (hd : W.heap[D]? = some (.deferred (some []))) : (W.putObj D (.deferred none)).ownsRow base 46 2 v n xs := own_put h hd
theorem Bx.fin {W : World} {b D : Nat} {v : Value} (h : Bx W b v) (hd : W.heap[D]? = some (.deferred (some []))) : (W.putObj D (.deferred none)).cell? ⟨b, 0, none⟩ = some v :=
  (h.own (grownBy_putObj' W D _) (fun r er => by cases er; exact ⟨_, hd, rfl⟩)).1
theorem RdM.putObj {W : World} {a : Option Addr} {n D : Nat} {f g : Nat → Int} (h : RdM W a n f g) (hd : W.heap[D]? = some (.deferred (some []))) : RdM (W.putObj D (.deferred none)) a n f g := by
  rcases h with h | ⟨b, o, e, hc⟩
  · exact .inl h
  · refine .inr ⟨b, o, e, fun i hi => ?_⟩
    have k : ∀ r, some D = some r → ∃ o : Obj, W.heap[r]? = some o ∧ o.isCells = false := fun r er => by cases er; exact ⟨_, hd, rfl⟩
    exact ⟨cell_kept (hc i hi).1 (grownBy_putObj' W D _) k, cell_kept (hc i hi).2 (grownBy_putObj' W D _) k⟩
theorem row_set {W : World} {base n b : Nat} {v u : Value} {xs : List Value} (h : W.ownsRow base 46 2 v n xs) (hb : b < base) : (W.setCell ⟨b, 0, none⟩ u).ownsRow base 46 2 v n xs := by
  have hgg : W.grownBy (W.setCell ⟨b, 0, none⟩ u) (some b) := ((Wr.refl _ W).set 0 _ : Wr _ W _)
  refine h.kept hgg ?_
  cases hv : v.ownBlock with
  | none => exact .inl rfl
  | some k =>
    right
    intro e
    obtain ⟨hk, _⟩ := own_blk h k hv
    cases e
    omega
/-- The results are stored, and the loop's deferred calls taken. -/
theorem fin_res {w W : World} {D : Nat} {u2 u3 v : Value} {E : Int} (hw : w.heap.size + 6 ≤ D) (g : Gr w W) (x2 : Bx W w.heap.size u2) (x3 : Bx W (w.heap.size + 1) u3) (hd : W.heap[D]? = some (.deferred (some []))) :
    ((W.setCell ⟨w.heap.size, 0, none⟩ v).setCell ⟨w.heap.size + 1, 0, none⟩ (.int .i64 E)).heap[D]? = some (.deferred (some [])) ∧
    (((W.setCell ⟨w.heap.size, 0, none⟩ v).setCell ⟨w.heap.size + 1, 0, none⟩ (.int .i64 E)).putObj D (.deferred none)).cell? ⟨w.heap.size, 0, none⟩ = some v ∧
    (((W.setCell ⟨w.heap.size, 0, none⟩ v).setCell ⟨w.heap.size + 1, 0, none⟩ (.int .i64 E)).putObj D (.deferred none)).cell? ⟨w.heap.size + 1, 0, none⟩ = some (.int .i64 E) ∧
    Gr w (((W.setCell ⟨w.heap.size, 0, none⟩ v).setCell ⟨w.heap.size + 1, 0, none⟩ (.int .i64 E)).putObj D (.deferred none)) := by
  have h1 : (W.setCell ⟨w.heap.size, 0, none⟩ v).heap[D]? = some (.deferred (some [])) := (Below.heap_setCell _ _ _ _ (by dsimp only; omega)).trans hd
  have h2 : ((W.setCell ⟨w.heap.size, 0, none⟩ v).setCell ⟨w.heap.size + 1, 0, none⟩ (.int .i64 E)).heap[D]? = some (.deferred (some [])) := (Below.heap_setCell _ _ _ _ (by dsimp only; omega)).trans h1
  have y2 : Bx ((W.setCell ⟨w.heap.size, 0, none⟩ v).setCell ⟨w.heap.size + 1, 0, none⟩ (.int .i64 E)) w.heap.size v := x2.put.far (by omega)
  have y3 : Bx ((W.setCell ⟨w.heap.size, 0, none⟩ v).setCell ⟨w.heap.size + 1, 0, none⟩ (.int .i64 E)) (w.heap.size + 1) (.int .i64 E) := (x3.far (by omega)).put
  exact ⟨h2, y2.fin h2, y3.fin h2, gr_put ((g.setCell (p := ⟨w.heap.size, 0, none⟩) (by dsimp only; omega) _).setCell (p := ⟨w.heap.size + 1, 0, none⟩) (by dsimp only; omega) _) (by omega)⟩
theorem RetMs.none {w w' : World} (g : Gr w w') (E : Int) : RetMs [] E w (.returned (.tuple #[.slice none 0 0, .int .i64 E])) w' := ⟨Option.none, 0, rfl, Nat.le_refl _, by unfold maxLen; omega, .inl rfl, g⟩

set_option maxHeartbeats 16000000 in
set_option maxRecDepth 100000 in
theorem Parse_in (s : ByteArray) (w : World) (hs : s.size ≤ 420) (hT : Pow10 w) (hE : Errs w) :
    Calls Tryd.prog 8 #[.string s] w (RetMs (prO s.data.toList).1 (prO s.data.toList).2 w) := by
  have HPo := Lib.hid (show ∀ ms, rdsO (splitK 32 s.data.toList) = some ms → prO s.data.toList = if vMk ms = true ∧ txC ms = s.data.toList then (ms, 0) else ([], 3) from fun ms h => by
    unfold prO
    rw [if_neg (by rw [size_key]; omega), h])
  have HPn := Lib.hid (show rdsO (splitK 32 s.data.toList) = none → prO s.data.toList = ([], 3) from fun h => by
    unfold prO
    rw [if_neg (by rw [size_key]; omega), h])
  have HS := Lib.hid hs
  have HT := Lib.hid hT
  have HE := Lib.hid hE
  have i7 : ¬ ((s.size : Int) > 420) := by omega
  clear hs hT hE
  refine (callsIn_wide (n := 3)).1 ?_
  refine callsIn_of_wp_marks Tryd.func8 rfl trivial ?_ rfl
  simp only [Tryd.ntmps8, List.size_toArray, List.length_cons, List.length_nil, Nat.reduceAdd, Nat.reduceSub, Array.replicate_succ, Array.replicate_zero, List.push_toArray, List.append_toArray, List.nil_append, List.cons_append]
  gi_wp2_with (gi_at_call 16; refine (callsIn_wide.2 (SplitSeq_any _ _ _)).mono ?_; rintro e w4 ⟨rfl, rfl⟩)
  have q0 : Bx (w.alloc (.cells #[.slice none 0 0] 22)) w.heap.size (.slice none 0 0) := (Gr.refl _).fresh' rfl rfl
  generalize hV0 : w.alloc (.cells #[.slice none 0 0] 22) = V0 at *
  have S0 : V0.heap.size = w.heap.size + 1 := by rw [← hV0]; simp
  have T0 : Gr w V0 := by rw [← hV0]; exact (Gr.refl _).alloc _
  have q1 : Bx (V0.alloc (.cells #[.int .i64 0] 25)) V0.heap.size (.int .i64 0) := (Gr.refl _).fresh' rfl rfl
  generalize hV1 : V0.alloc (.cells #[.int .i64 0] 25) = V1 at *
  have S1 : V1.heap.size = V0.heap.size + 1 := by rw [← hV1]; simp
  have T1 : Gr V0 V1 := by rw [← hV1]; exact (Gr.refl _).alloc _
  have q2 : Bx (V1.alloc (.cells #[.slice none 0 0] 22)) V1.heap.size (.slice none 0 0) := (Gr.refl _).fresh' rfl rfl
  generalize hV2 : V1.alloc (.cells #[.slice none 0 0] 22) = V2 at *
  have S2 : V2.heap.size = V1.heap.size + 1 := by rw [← hV2]; simp
  have T2 : Gr V1 V2 := by rw [← hV2]; exact (Gr.refl _).alloc _
  have q3 : Bx (V2.alloc (.cells #[.string s] 9)) V2.heap.size (.string s) := (Gr.refl _).fresh' rfl rfl
  generalize hV3 : V2.alloc (.cells #[.string s] 9) = V3 at *
  have S3 : V3.heap.size = V2.heap.size + 1 := by rw [← hV3]; simp
  have T3 : Gr V2 V3 := by rw [← hV3]; exact (Gr.refl _).alloc _
  have q4 : Bx (V3.alloc (.cells #[.string ⟨#[32]⟩] 9)) V3.heap.size (.string ⟨#[32]⟩) := (Gr.refl _).fresh' rfl rfl
  generalize hV4 : V3.alloc (.cells #[.string ⟨#[32]⟩] 9) = V4 at *
  have S4 : V4.heap.size = V3.heap.size + 1 := by rw [← hV4]; simp
  have T4 : Gr V3 V4 := by rw [← hV4]; exact (Gr.refl _).alloc _
  have q5 : Bx (V4.alloc (.cells #[.int .i64 0] 3)) V4.heap.size (.int .i64 0) := (Gr.refl _).fresh' rfl rfl
  generalize hV5 : V4.alloc (.cells #[.int .i64 0] 3) = V5 at *
  have S5 : V5.heap.size = V4.heap.size + 1 := by rw [← hV5]; simp
  have T5 : Gr V4 V5 := by rw [← hV5]; exact (Gr.refl _).alloc _
  have G0 := Lib.hid (((((T0.trans T1).trans T2).trans T3).trans T4).trans T5)
  have B2 := Lib.hid (q0.gr ((((T1.trans T2).trans T3).trans T4).trans T5))
  have B3 := Lib.hid (q1.gr (((T2.trans T3).trans T4).trans T5))
  have B4 := Lib.hid (q2.gr ((T3.trans T4).trans T5))
  have B5 := Lib.hid (q3.gr (T4.trans T5))
  have B6 := Lib.hid (q4.gr T5)
  have B7 := Lib.hid q5
  rw [show V0.heap.size = w.heap.size + 1 by omega] at B3
  rw [show V1.heap.size = w.heap.size + 2 by omega] at B4
  rw [show V2.heap.size = w.heap.size + 3 by omega] at B5
  rw [show V3.heap.size = w.heap.size + 4 by omega] at B6
  rw [show V4.heap.size = w.heap.size + 5 by omega] at B7
  have Z1 : V0.heap.size = w.heap.size + 1 := S0
  have Z2 : V1.heap.size = w.heap.size + 2 := by omega
  have Z3 : V2.heap.size = w.heap.size + 3 := by omega
  have Z9 : V5.heap.size = w.heap.size + 6 := by omega
  clear hV0 hV1 hV2 hV3 hV4 hV5 q0 q1 q2 q3 q4 q5 T0 T1 T2 T3 T4 T5 S0 S1 S2 S3 S4 S5
  have I0 : Ip w [] V5 := ⟨[], none, 0, rfl, B4.out, B2.out, B3.out, World.ownsRow_nil _ _ _ _, by omega, G0.out⟩
  refine rangeFunc_wr rfl (by omega) (gf := 35) (lb := #[.pointer (some ⟨w.heap.size + 4, 0, none⟩), .pointer (some ⟨w.heap.size + 3, 0, none⟩), .pointer (some ⟨w.heap.size + 5, 0, none⟩)]) rfl trivial (enters_of Tryd.func35 (by kernel_rfl) rfl)
    (splitSeq1_seq _ (by omega) (w.heap.size + 3) (w.heap.size + 4) (w.heap.size + 5) (by omega) (by omega) 32 s V5 (by have := HS.out; omega) B6.out.1 B5.out.1 B5.out.2 B7.out.1)
    Kb.trans (fun W l o o' _ h hc _ => Kb.putObj W l o o' h hc) (fun A B h => h.keeps) (Below.refl _ _) (fun _ => rfl)
    (Ip w) (Ix w) (Ip.own (by omega)) (fun pre A B h k => Ip.wb h k) (fun c => Ix.own (by omega) c) I0
    (fun x => { tmps := #[.string s, undef, .pointer (some ⟨w.heap.size, 0, none⟩), .pointer (some ⟨w.heap.size + 1, 0, none⟩), .pointer (some ⟨w.heap.size + 2, 0, none⟩), .string (bA x), undef, undef, undef, undef, undef, undef, .string s, .int .i64 s.size, .bool false, .string s, .func (.func 35) #[] #[.pointer (some ⟨w.heap.size + 4, 0, none⟩), .pointer (some ⟨w.heap.size + 3, 0, none⟩), .pointer (some ⟨w.heap.size + 5, 0, none⟩)], .string (bA x), undef, undef, undef, undef, undef, undef, undef, undef, undef, undef, undef, undef, undef, undef, undef, undef, undef, undef, undef, undef, undef, undef, undef, undef, undef, undef, undef, undef, undef, undef, undef, undef, undef, undef, undef, undef], defers := [] }) ?assign ?body ?done ?stop
  case assign =>
    intro l x W K hK
    unfold encK
    gi_wp2
    exact hK
  case body =>
    rintro l pre x W ⟨ms, a, c, hI⟩ hx hl
    have HI := Lib.hid hI
    have X2 := Lib.hid hI.x2
    have X3 := Lib.hid hI.x3
    have X4 := Lib.hid hI.x4
    have RW := Lib.hid hI.row
    have TP := Lib.hid hI.top
    have GW := Lib.hid hI.gr
    have HK := Lib.hid (show ms.length < 999999 by rw [rdsO_len hI.rd]; have := HS.out; omega)
    have FR := Lib.hid (show ∀ b, b < w.heap.size + 6 → (Value.slice a ms.length c).ownBlock ≠ some b from fun b hb e => by have := (own_blk hI.row b e).1; omega)
    have HX := Lib.hid hx
    have HC := Lib.hid (cut_le x)
    have C17 := Lib.hid (fun wx => Cut_any x hx wx)
    clear hI hx hl I0 B2 B3 B4 B5 B6 B7 G0
    rcases ha : Lib.atoiAll (cutA x) with va | _ | _
    · have CA := Lib.hid (fun wx (_ : Gr W wx) => atoi_yes (cutA x) va ha (Nat.le_trans HC.out.1 HX.out) wx)
      rcases hb : Lib.atoiAll (cutB x) with vb | _ | _
      · have HR := Lib.hid (show rdO x = some (va, vb) by unfold rdO; rw [ha, hb])
        have CB := Lib.hid (fun wx (_ : Gr W wx) => atoi_yes (cutB x) vb hb (Nat.le_trans HC.out.2 HX.out) wx)
        have BG := Lib.hid (fun (A : World) (k : Gr W A) => k.trans ((Gr.refl A).alloc (.cells #[.int .i64 va, .int .i64 vb] 46)))
        gi_wp2_with (first
          | (gi_at_call 17; (refine (callsIn_wide.2 (C17.out _)).mono ?_); rintro e w1 ⟨f1, rfl, g1⟩; have G1 := Lib.hid g1; obtain ⟨y2, z2⟩ := X2.out.gr g1; obtain ⟨y3, z3⟩ := X3.out.gr g1; obtain ⟨y4, z4⟩ := X4.out.gr g1; clear g1)
          | (gi_at_call 18; (refine (callsIn_wide.2 (CA.out _ G1.out)).mono ?_); rintro e w2 ⟨rfl, g2⟩; have G2 := Lib.hid (G1.out.trans g2); obtain ⟨y2, z2⟩ := X2.out.gr G2.out; obtain ⟨y3, z3⟩ := X3.out.gr G2.out; obtain ⟨y4, z4⟩ := X4.out.gr G2.out; clear g2 CA)
          | (gi_at_call 18; (refine (callsIn_wide.2 (CB.out _ G2.out)).mono ?_); rintro e w3 ⟨rfl, g3⟩; have G3 := Lib.hid (G2.out.trans g3); obtain ⟨y2, z2⟩ := X2.out.gr G3.out; obtain ⟨y3, z3⟩ := X3.out.gr G3.out; obtain ⟨y4, z4⟩ := X4.out.gr G3.out; clear g3 CB)
          | (gi_at_builtin; (refine wpListIn_app_pairR rfl _ _ rfl _ ms rfl (rows_gr RW.out (BG.out _ G3.out)) (Nat.le_trans TP.out (BG.out _ G3.out).size) _ _ _ rfl (box_ii _ _ _ 46) HK.out ?_; intro a' c' w5 hO hG; obtain ⟨y4, z4⟩ := (X4.out.gr (BG.out _ G3.out)).grown hG (FR.out _ (by omega)); have HO := Lib.hid hO; have HG := Lib.hid hG; clear hO hG)))
        exact Ip.step (BG.out _ G3.out) HI.out HO.out HG.out HR.out
      · have HR := Lib.hid (show rdO x = none by unfold rdO; rw [ha, hb])
        have CB := Lib.hid (fun wx (k : Gr W wx) => atoi_not (cutB x) (fun v e => by rw [hb] at e; cases e) (Nat.le_trans HC.out.2 HX.out) wx (HE.out.gr (GW.out.trans k)))
        gi_wp2_with (first
          | (gi_at_call 17; (refine (callsIn_wide.2 (C17.out _)).mono ?_); rintro e w1 ⟨f1, rfl, g1⟩; have G1 := Lib.hid g1; obtain ⟨y2, z2⟩ := X2.out.gr g1; obtain ⟨y3, z3⟩ := X3.out.gr g1; obtain ⟨y4, z4⟩ := X4.out.gr g1; clear g1)
          | (gi_at_call 18; (refine (callsIn_wide.2 (CA.out _ G1.out)).mono ?_); rintro e w2 ⟨rfl, g2⟩; have G2 := Lib.hid (G1.out.trans g2); obtain ⟨y2, z2⟩ := X2.out.gr G2.out; obtain ⟨y3, z3⟩ := X3.out.gr G2.out; obtain ⟨y4, z4⟩ := X4.out.gr G2.out; clear g2 CA)
          | (gi_at_call 18; (refine (callsIn_wide.2 (CB.out _ G2.out)).mono ?_); rintro e w3 ⟨⟨n0, N0, rfl⟩, g3⟩; have G3 := Lib.hid (G2.out.trans g3); obtain ⟨y2, z2⟩ := X2.out.gr G3.out; obtain ⟨y3, z3⟩ := X3.out.gr G3.out; obtain ⟨y4, z4⟩ := X4.out.gr G3.out; clear g3 CB))
        exact Ix.leave G3.out HI.out HR.out
      · have HR := Lib.hid (show rdO x = none by unfold rdO; rw [ha, hb])
        have CB := Lib.hid (fun wx (k : Gr W wx) => atoi_not (cutB x) (fun v e => by rw [hb] at e; cases e) (Nat.le_trans HC.out.2 HX.out) wx (HE.out.gr (GW.out.trans k)))
        gi_wp2_with (first
          | (gi_at_call 17; (refine (callsIn_wide.2 (C17.out _)).mono ?_); rintro e w1 ⟨f1, rfl, g1⟩; have G1 := Lib.hid g1; obtain ⟨y2, z2⟩ := X2.out.gr g1; obtain ⟨y3, z3⟩ := X3.out.gr g1; obtain ⟨y4, z4⟩ := X4.out.gr g1; clear g1)
          | (gi_at_call 18; (refine (callsIn_wide.2 (CA.out _ G1.out)).mono ?_); rintro e w2 ⟨rfl, g2⟩; have G2 := Lib.hid (G1.out.trans g2); obtain ⟨y2, z2⟩ := X2.out.gr G2.out; obtain ⟨y3, z3⟩ := X3.out.gr G2.out; obtain ⟨y4, z4⟩ := X4.out.gr G2.out; clear g2 CA)
          | (gi_at_call 18; (refine (callsIn_wide.2 (CB.out _ G2.out)).mono ?_); rintro e w3 ⟨⟨n0, N0, rfl⟩, g3⟩; have G3 := Lib.hid (G2.out.trans g3); obtain ⟨y2, z2⟩ := X2.out.gr G3.out; obtain ⟨y3, z3⟩ := X3.out.gr G3.out; obtain ⟨y4, z4⟩ := X4.out.gr G3.out; clear g3 CB))
        exact Ix.leave G3.out HI.out HR.out
    · have HR := Lib.hid (show rdO x = none by unfold rdO; rw [ha])
      have CA := Lib.hid (fun wx (k : Gr W wx) => atoi_not (cutA x) (fun v e => by rw [ha] at e; cases e) (Nat.le_trans HC.out.1 HX.out) wx (HE.out.gr (GW.out.trans k)))
      gi_wp2_with (first
        | (gi_at_call 17; (refine (callsIn_wide.2 (C17.out _)).mono ?_); rintro e w1 ⟨f1, rfl, g1⟩; have G1 := Lib.hid g1; obtain ⟨y2, z2⟩ := X2.out.gr g1; obtain ⟨y3, z3⟩ := X3.out.gr g1; obtain ⟨y4, z4⟩ := X4.out.gr g1; clear g1)
        | (gi_at_call 18; (refine (callsIn_wide.2 (CA.out _ G1.out)).mono ?_); rintro e w2 ⟨⟨n0, N0, rfl⟩, g2⟩; have G2 := Lib.hid (G1.out.trans g2); obtain ⟨y2, z2⟩ := X2.out.gr G2.out; obtain ⟨y3, z3⟩ := X3.out.gr G2.out; obtain ⟨y4, z4⟩ := X4.out.gr G2.out; clear g2 CA))
      exact Ix.leave G2.out HI.out HR.out
    · have HR := Lib.hid (show rdO x = none by unfold rdO; rw [ha])
      have CA := Lib.hid (fun wx (k : Gr W wx) => atoi_not (cutA x) (fun v e => by rw [ha] at e; cases e) (Nat.le_trans HC.out.1 HX.out) wx (HE.out.gr (GW.out.trans k)))
      gi_wp2_with (first
        | (gi_at_call 17; (refine (callsIn_wide.2 (C17.out _)).mono ?_); rintro e w1 ⟨f1, rfl, g1⟩; have G1 := Lib.hid g1; obtain ⟨y2, z2⟩ := X2.out.gr g1; obtain ⟨y3, z3⟩ := X3.out.gr g1; obtain ⟨y4, z4⟩ := X4.out.gr g1; clear g1)
        | (gi_at_call 18; (refine (callsIn_wide.2 (CA.out _ G1.out)).mono ?_); rintro e w2 ⟨⟨n0, N0, rfl⟩, g2⟩; have G2 := Lib.hid (G1.out.trans g2); obtain ⟨y2, z2⟩ := X2.out.gr G2.out; obtain ⟨y3, z3⟩ := X3.out.gr G2.out; obtain ⟨y4, z4⟩ := X4.out.gr G2.out; clear g2 CA))
      exact Ix.leave G2.out HI.out HR.out
  case done =>
    rintro D ys W hD rfl ⟨ms, a, c, hI⟩ hK
    have X2 := Lib.hid hI.x2
    have X3 := Lib.hid hI.x3
    have X4 := Lib.hid hI.x4
    have RW := Lib.hid hI.row
    have GW := Lib.hid hI.gr
    have HP := Lib.hid (HPo.out ms hI.rd)
    have HD := Lib.hid hK
    have HDW := Lib.hid (show w.heap.size + 6 ≤ D by omega)
    have HK := Lib.hid (show ms.length ≤ 9223372036854775807 by rw [rdsO_len hI.rd]; have := split_few s; have := HS.out; omega)
    obtain ⟨c4, f4⟩ := hI.x4
    obtain ⟨a', c', ev, l1, l2, rd⟩ := rd_ownM hI.row
    obtain ⟨rfl, rfl⟩ : a = a' ∧ c = c' := by cases ev; exact ⟨rfl, rfl⟩
    have C12 := Lib.hid (show Calls Tryd.prog 12 #[.slice a ms.length c] W (RetB (vMk ms) W) from ValidClock_any a ms.length c (px ms) (py ms) W HK.out rd)
    have HRD := Lib.hid rd
    have HLL := Lib.hid (And.intro l1 l2)
    clear ev rd hI l1 l2 I0 B2 B3 B4 B5 B6 B7 G0 hD hK HPo HPn
    cases hv : vMk ms with
    | false =>
      rw [hv] at C12
      have HQ := Lib.hid (show prO s.data.toList = ([], 3) by rw [HP.out, if_neg (by rw [hv]; simp)])
      clear hv HP
      gi_wp2_with (gi_at_call 12; (refine (callsIn_wide.2 C12.out).mono ?_); rintro e w5 ⟨rfl, g5⟩; have G5 := Lib.hid g5; obtain ⟨y2, z2⟩ := X2.out.gr g5; obtain ⟨y3, z3⟩ := X3.out.gr g5; obtain ⟨y4, z4⟩ := X4.out.gr g5; clear g5 C12)
      obtain ⟨d1, d2, d3, d4⟩ := fin_res (v := .slice none 0 0) (E := 3) HDW.out (GW.out.trans G5.out) (X2.out.gr G5.out) (X3.out.gr G5.out) (heap_gr HD.out G5.out)
      refine ⟨by simp, .inl ⟨_, _, rfl, run_takeDeferred d1, ?_⟩⟩
      rw [HQ.out]
      exact ⟨_, by simp [results, Tryd.f8, go_sem, d2, d3], RetMs.none d4 3⟩
    | true =>
      rw [hv] at C12
      have C13 := Lib.hid (fun wx (k : Gr W wx) => text_any a c ms wx (HT.out.gr (GW.out.trans k)) hv (HRD.out.gr k))
      cases hcmp : ((bA (txC ms)).toList == s.toList) with
      | true =>
        have HQ := Lib.hid (show prO s.data.toList = (ms, 0) by
          refine HP.out.trans (if_pos ⟨hv, ?_⟩)
          have : (bA (txC ms)).toList = s.toList := by simpa using hcmp
          rw [ByteArray.toList_eq, ByteArray.toList_eq] at this
          exact this)
        clear hv HP
        generalize bA (txC ms) = T at *
        gi_wp2_with (first
          | (gi_at_call 12; (refine (callsIn_wide.2 C12.out).mono ?_); rintro e w5 ⟨rfl, g5⟩; have G5 := Lib.hid g5; obtain ⟨y2, z2⟩ := X2.out.gr g5; obtain ⟨y3, z3⟩ := X3.out.gr g5; obtain ⟨y4, z4⟩ := X4.out.gr g5; clear g5 C12)
          | (gi_at_call 13; (refine (callsIn_wide.2 (C13.out _ G5.out)).mono ?_); rintro e w6 ⟨rfl, g6⟩; have G6 := Lib.hid (G5.out.trans g6); obtain ⟨y2, z2⟩ := X2.out.gr G6.out; obtain ⟨y3, z3⟩ := X3.out.gr G6.out; obtain ⟨y4, z4⟩ := X4.out.gr G6.out; clear g6 C13))
        obtain ⟨d1, d2, d3, d4⟩ := fin_res (v := .slice a ms.length c) (E := 0) HDW.out (GW.out.trans G6.out) (X2.out.gr G6.out) (X3.out.gr G6.out) (heap_gr HD.out G6.out)
        have RR := row_put (row_set (u := .int .i64 0) (b := w.heap.size + 1) (row_set (u := .slice a ms.length c) (b := w.heap.size) (rows_gr RW.out G6.out) (by omega)) (by omega)) d1
        refine ⟨by simp, .inl ⟨_, _, rfl, run_takeDeferred d1, ?_⟩⟩
        rw [HQ.out]
        obtain ⟨a2, c2', ev, l1, l2, rd⟩ := rd_ownM RR
        obtain ⟨rfl, rfl⟩ : a = a2 ∧ c = c2' := by cases ev; exact ⟨rfl, rfl⟩
        exact ⟨.tuple #[.slice a ms.length c, .int .i64 0], by simp [results, Tryd.f8, go_sem, d2, d3], a, c, rfl, l1, l2, rd, d4⟩
      | false =>
        have HQ := Lib.hid (show prO s.data.toList = ([], 3) by
          rw [HP.out, if_neg]
          rintro ⟨_, e⟩
          have : (bA (txC ms)).toList = s.toList := by rw [ByteArray.toList_eq, ByteArray.toList_eq]; exact e
          rw [this] at hcmp
          simp at hcmp)
        clear hv HP
        generalize bA (txC ms) = T at *
        gi_wp2_with (first
          | (gi_at_call 12; (refine (callsIn_wide.2 C12.out).mono ?_); rintro e w5 ⟨rfl, g5⟩; have G5 := Lib.hid g5; obtain ⟨y2, z2⟩ := X2.out.gr g5; obtain ⟨y3, z3⟩ := X3.out.gr g5; obtain ⟨y4, z4⟩ := X4.out.gr g5; clear g5 C12)
          | (gi_at_call 13; (refine (callsIn_wide.2 (C13.out _ G5.out)).mono ?_); rintro e w6 ⟨rfl, g6⟩; have G6 := Lib.hid (G5.out.trans g6); obtain ⟨y2, z2⟩ := X2.out.gr G6.out; obtain ⟨y3, z3⟩ := X3.out.gr G6.out; obtain ⟨y4, z4⟩ := X4.out.gr G6.out; clear g6 C13))
        obtain ⟨d1, d2, d3, d4⟩ := fin_res (v := .slice none 0 0) (E := 3) HDW.out (GW.out.trans G6.out) (X2.out.gr G6.out) (X3.out.gr G6.out) (heap_gr HD.out G6.out)
        refine ⟨by simp, .inl ⟨_, _, rfl, run_takeDeferred d1, ?_⟩⟩
        rw [HQ.out]
        exact ⟨_, by simp [results, Tryd.f8, go_sem, d2, d3], RetMs.none d4 3⟩
  case stop =>
    rintro D cc pre W hD ⟨t, ht⟩ ⟨rfl, hn, x2, x3, gw⟩ hK
    have HQ := Lib.hid (HPn.out (by rw [ht]; exact rdsO_none _ _ hn))
    have c2 := x2.fin hK
    have c3 := x3.fin hK
    have HG := Lib.hid (gr_put (D := D) gw (by omega))
    have HD := Lib.hid hK
    clear x2 x3 gw hK hn ht
    gi_wp2
    refine ⟨by simp, .inl ⟨_, _, rfl, run_takeDeferred HD.out, ?_⟩⟩
    rw [HQ.out]
    exact ⟨_, by simp [results, Tryd.f8, go_sem, c2, c3], RetMs.none HG.out 3⟩

theorem Parse_any (s : ByteArray) (w : World) (hs : s.size ≤ 9223372036854775807) (hT : Pow10 w) (hE : Errs w) :
    Calls Tryd.prog 8 #[.string s] w (RetMs (prO s.data.toList).1 (prO s.data.toList).2 w) := by
  by_cases hl : s.size ≤ 420
  · exact Parse_in s w hl hT hE
  · have ep : prO s.data.toList = ([], 3) := by unfold prO; rw [if_pos (by rw [size_key]; omega)]
    rw [ep]
    have i7 : (s.size : Int) > 420 := by omega
    clear ep hl hT hE
    go_enter Tryd.func8, Tryd.ntmps8
    go_wp2_with fail
    refine bodyPost_ret (v := .tuple #[.slice none 0 0, .int .i64 3]) (by simp [results, Tryd.results8, go_sem]) rfl ?_
    exact RetMs.none (((Gr.refl w).alloc _).alloc _) 3
end Go.Proofs.YtdlbgelidcfmiaaDoor
