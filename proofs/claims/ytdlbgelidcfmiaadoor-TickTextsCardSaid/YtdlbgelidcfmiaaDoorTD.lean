/- Contracts of chapter 1: the text of a clock. -/
import Derived.Test.YtdlbgelidcfmiaaDoorTB
import Derived.Test.YtdlbgelidcfmiaaDoorTC
namespace Go.Proofs.YtdlbgelidcfmiaaDoor
open Go.RowKit Go.Firn Go.Shelf

theorem wp_app_str {o : Oper} {a : Act} {K : Act → World → Prop} {Q : Exit → Act → World → Prop} (s x : Operand)
    (ho : o.op = .call { callee := .builtin .append, args := #[s, x], argTypes := #[50, 50] })
    {w0 w : World} (v : Value) (L : List ByteArray) (hs : a.eval s = v) (hown : OwnW w0 w v L)
    (b : Nat) (t : ByteArray) (hx : a.eval x = .slice (some ⟨b, 0, none⟩) 1 1) (hc : w.cell? ⟨b, 0, none⟩ = some (.string t)) (hk : L.length < 999999)
    (h : ∀ v' w', OwnW w0 w' v' (L ++ [t]) → w.grownBy w' v.ownBlock → K (a.put o.dst v') w') : o.wp Tryd.prog a w K Q := by
  obtain ⟨i0, hi, hz0, hz1, hz2⟩ := info9
  refine wp_append_own w s x 50 ho w0.heap.size 9 i0 _ 1 16 Tryd.underlying50 hi hz0 hz1 hz2 rfl (by decide) v L.length (L.map Value.string) hs hown.1 ⟨b, 0, none⟩ 1 1 [.string t] hx rfl ?_ ?_ (by unfold maxLen; omega) (by omega) hown.2.size ?_
  · intro j u hu
    cases j with
    | zero => simp at hu; subst hu; exact hc
    | succ j => simp at hu
  · intro u hu
    simp at hu
    subst hu
    rfl
  · intro v' w' h1 h2 _
    refine h v' w' ⟨?_, hown.2.grown h2 fun k hk => (hown.1.lt k hk).1⟩ h2
    rw [List.length_append, List.map_append]
    exact h1
theorem step_app_str {ops : Array Oper} {o : Oper} {a : Act} {K : Act → World → Prop} {Q : Exit → Act → World → Prop} {E : Prop} (hgd : o.guard = none) (s x : Operand)
    (ho : o.op = .call { callee := .builtin .append, args := #[s, x], argTypes := #[50, 50] })
    {w0 w : World} (v : Value) (L : List ByteArray) (hs : a.eval s = v) (hown : OwnW w0 w v L)
    (b : Nat) (t : ByteArray) (hx : a.eval x = .slice (some ⟨b, 0, none⟩) 1 1) (hc : w.cell? ⟨b, 0, none⟩ = some (.string t)) (hk : L.length < 999999)
    (h : ∀ v' w', OwnW w0 w' v' (L ++ [t]) → w.grownBy w' v.ownBlock → K (a.put o.dst v') w') :
    if Region.wanted o (yielded ops a.tmps) = true then Oper.wp Tryd.prog o a w K Q else E := by
  have hw : Region.wanted o (yielded ops a.tmps) = true := by simp [Region.wanted, hgd]
  rw [if_pos hw]
  exact wp_app_str s x ho v L hs hown b t hx hc hk h
theorem OwnW.box {w0 wr w5 W : World} {v : Value} {M : List ByteArray} (hO : OwnW w0 wr v M) (hg : W.grownBy w5 v.ownBlock) {b off : Nat} (hb : wr.heap.size ≤ b) {x : Value} (hc : W.cell? ⟨b, off, none⟩ = some x) : w5.cell? ⟨b, off, none⟩ = some x := by
  have hlt := World.block_lt_of_cell? W _ hc
  have e := hg.block b hlt (fun e => by have := (hO.1.lt b e.symm).2; omega)
  exact (World.cell?_of_block e).trans hc
theorem box_ii (w : World) (x y : Int) (e : TypeId) : (w.alloc (.cells #[.int .i64 x, .int .i64 y] e)).cell? ⟨w.heap.size, 0, none⟩ = some (.int .i64 x) ∧ (w.alloc (.cells #[.int .i64 x, .int .i64 y] e)).cell? ⟨w.heap.size, 1, none⟩ = some (.int .i64 y) := by
  simp [World.cell?_alloc_new]
theorem take_addC {c : CL} {k : Nat} (h : k < c.length) : c.take (k + 1) = c.take k ++ [(px c k, py c k)] := by
  rw [List.take_add_one, pxy h]
  rfl
theorem itoa_size {n : Int} (h0 : 0 ≤ n) (h1 : n ≤ 100000) : (bA (Lib.itoa n)).size ≤ 19 := by
  rw [bA_size, itoa_pos h0]
  exact dec_len (by omega)
theorem bA_word (x : Int × Int) : bA (wdC x) = bA (Lib.itoa x.1) ++ ⟨#[61]⟩ ++ bA (Lib.itoa x.2) := by
  show _ = bA _ ++ bA [61] ++ bA _
  rw [bA_append, bA_append]
  unfold wdC
  simp

set_option maxHeartbeats 4000000 in
set_option maxRecDepth 100000 in
theorem text_any (a : Option Addr) (cp : Nat) (c : CL) (w : World) (hT : Pow10 w) (hL : vMk c = true) (hr : RdM w a c.length (px c) (py c)) :
    Calls Tryd.prog 13 #[.slice a c.length cp] w (RetT (bA (txC c)) w) := by
  have HW := Lib.hid (Mks.of hL)
  have HR := Lib.hid hr
  have HT := Lib.hid hT
  have HLe := Lib.hid (Mks.of hL).few
  clear hL hr hT
  go_enter Tryd.func13, Tryd.ntmps13
  go_wp2_with fail
  go_loopw [3, 8] (fun s3 s8 wr => ∃ k : Nat, k ≤ c.length ∧ s8 = .int .i64 k ∧ Hid (OwnW w wr s3 ((c.take k).map fun x => bA (wdC x)))) (fun _ s _ => c.length - (intOf s).toNat)
  case atStart => exact ⟨0, Nat.zero_le _, rfl, Lib.hid (OwnW.nil (Gr.refl _))⟩
  case round =>
    obtain ⟨k, hk, rfl, HO⟩ := hrel
    by_cases hlt : k < c.length
    · have i1 : (k : Int) < (c.length : Int) := by omega
      obtain ⟨b, o, rfl, hc⟩ := (HR.out.gr HO.out.2).at hlt
      obtain ⟨c0, c1⟩ := hc k hlt
      have w2 : IntKind.i64.wrap ((k : Int) + 1) = ((k + 1 : Nat) : Int) := by rw [IntWalk.i64_in _ (by have := HLe.out; omega)]; omega
      have hm := HW.out.ok _ (List.mem_of_getElem? (pxy hlt))
      have HN := Lib.hid (show (c.take (k + 1)).map (fun x => bA (wdC x)) = (c.take k).map (fun x => bA (wdC x)) ++ [bA (Lib.itoa (px c k)) ++ ⟨#[61]⟩ ++ bA (Lib.itoa (py c k))] by rw [take_addC hlt, List.map_append, List.map_singleton, bA_word])
      have HKl := Lib.hid (show ((c.take k).map fun x => bA (wdC x)).length < 999999 by rw [List.length_map, List.length_take]; have := HLe.out; omega)
      obtain ⟨z0, z1⟩ := box_ii wr (px c k) (py c k) 46
      have s1 : (bA (Lib.itoa (px c k))).size ≤ 19 := itoa_size hm.1 hm.2.1
      have s2 : (bA (Lib.itoa (py c k))).size ≤ 19 := itoa_size hm.2.2.1 hm.2.2.2
      have t1 : (bA (Lib.itoa (px c k))).size + 1 ≤ 9223372036854775807 := by omega
      have t2 : (bA (Lib.itoa (px c k))).size + 1 + (bA (Lib.itoa (py c k))).size ≤ 9223372036854775807 := by omega
      have t3 : (9223372036854775807 < (bA (Lib.itoa (px c k))).size + 1) = False := by simp; omega
      have t4 : (9223372036854775807 < (bA (Lib.itoa (px c k))).size + 1 + (bA (Lib.itoa (py c k))).size) = False := by simp; omega
      have CX := Lib.hid (fun wx (g : Gr wr wx) => itoa_any (px c k) hm.1 hm.2.1 wx (HT.out.gr (HO.out.2.trans g)))
      have CY := Lib.hid (fun wx (g : Gr wr wx) => itoa_any (py c k) hm.2.2.1 hm.2.2.2 wx (HT.out.gr (HO.out.2.trans g)))
      have HLk := Lib.hid hlt
      have HOA := Lib.hid (fun wx (g : Gr wr wx) => HO.out.gr g)
      have HGA := Lib.hid ((Gr.refl wr).alloc (.cells #[.int .i64 (px c k), .int .i64 (py c k)] 46))
      clear hc hm hlt s1 s2
      generalize hM : (c.take (k + 1)).map (fun x => bA (wdC x)) = M2 at *
      have HM2 := Lib.hid hM
      clear hM
      generalize (c.take k).map (fun x => bA (wdC x)) = M1 at *
      generalize px c k = x at *
      generalize py c k = y at *
      generalize bA (Lib.itoa x) = X at *
      generalize bA (Lib.itoa y) = Y at *
      go_wp2_with fail
      go_region_held3 (fun w' => w'.cell? ⟨wr.heap.size, 0, none⟩ = some (.int .i64 x) ∧ w'.cell? ⟨wr.heap.size, 1, none⟩ = some (.int .i64 y))
        (first | go_keep | exact ⟨g3.cell z0, g3.cell z1⟩ | exact ⟨g4.cell (g3.cell z0), g4.cell (g3.cell z1)⟩ | exact ⟨HO.out.box hgr (Nat.le_refl _) (((Gr.refl w4).alloc _).cell (g4.cell (g3.cell z0))), HO.out.box hgr (Nat.le_refl _) (((Gr.refl w4).alloc _).cell (g4.cell (g3.cell z1)))⟩)
        (first
          | (go_at_call 21; (with_reducible refine (CX.out _ HGA.out.drew).mono ?_); rintro e w3 ⟨rfl, g3⟩; have G3 := Lib.hid (HGA.out.drew.trans g3); clear CX)
          | (go_at_call 21; (with_reducible refine (CY.out _ G3.out).mono ?_); rintro e w4 ⟨rfl, g4⟩; have G4 := Lib.hid (G3.out.trans g4); clear CY)
          | (refine step_app_str rfl _ _ rfl _ _ rfl (HOA.out _ (G4.out.alloc _)) _ _ rfl (cell_new1 _ _ 9) HKl.out ?_; intro v1 w5 hown hgr; have H1 := Lib.hid hown; clear hown))
      go_wp2_with fail
      go_roundw
      case rel => exact ⟨k + 1, HLk.out, by go_num, Lib.hid (by rw [HM2.out, HN.out]; exact H1.out)⟩
      case measure => have := HLk.out; simp [intOf]; omega
    · obtain rfl : k = c.length := by omega
      have i1 : ¬ (c.length : Int) < (c.length : Int) := by omega
      rcases HO.out.row with ⟨rfl, h0⟩ | ⟨g, cc, rfl, h1, h2, h3, h4, h5⟩
      · exfalso
        have := congrArg List.length h0
        rw [List.length_map, List.length_take] at this
        simp only [List.length_nil] at this
        have := HW.out.two
        omega
      · have hl : ((c.take c.length).map fun x => bA (wdC x)).length = c.length := by rw [List.length_map, List.length_take]; omega
        have hj : Lib.join (((c.take c.length).map fun x => bA (wdC x)).map (·.data.toList)) [32] = txC c := by
          rw [List.take_length, List.map_map]
          rfl
        have hJ := Any.strings_Join Tryd.join22 Tryd.joinX g 0 cc ((c.take c.length).map fun x => bA (wdC x)) ⟨#[32]⟩ wr (fun j x hx => by rw [Nat.zero_add]; exact (h3 j x hx).1) h5 (by rw [hl]; have := HLe.out; omega) h1 (by
          rw [show (⟨#[32]⟩ : ByteArray).data.toList = [32] from rfl, hj]
          have := tx_size HW.out c.length
          rw [List.take_length] at this
          omega)
        rw [show (⟨#[32]⟩ : ByteArray).data.toList = [32] from rfl, hj] at hJ
        have CJ := Lib.hid (show Calls Tryd.prog 22 #[.slice (some ⟨g, 0, none⟩) ((c.take c.length).map fun x => bA (wdC x)).length cc, .string ⟨#[32]⟩] wr (RetT (bA (txC c)) wr) from hJ)
        have HG := Lib.hid HO.out.2
        clear hJ hj hl h1 h2 h3 h4 h5 HW HR HT HO
        generalize ((c.take c.length).map fun x => bA (wdC x)).length = N at *
        generalize bA (txC c) = T at *
        go_wp2_with (go_at_call 22; (with_reducible refine CJ.out.mono ?_); rintro e w3 ⟨rfl, g3⟩; have G3 := Lib.hid (HG.out.trans g3); clear g3)
        go_ret
        exact ⟨rfl, G3.out⟩

theorem tx_next {c : CL} {k : Nat} (h : k < c.length) : bA (txC (c.take (k + 1))) = (if k = 0 then bA [] else bA (txC (c.take k)) ++ ⟨#[32]⟩) ++ (bA (Lib.itoa (px c k)) ++ ⟨#[61]⟩ ++ bA (Lib.itoa (py c k))) := by
  have e := bA_word (px c k, py c k)
  rw [← e]
  unfold txC
  rw [take_addC h, List.map_append, List.map_singleton]
  by_cases h0 : k = 0
  · subst h0
    rw [if_pos rfl, bA_append]
    simp [Lib.join_one]
  · rw [if_neg h0, join_snoc _ _ (by
      intro e
      have := congrArg List.length e
      rw [List.length_map, List.length_take] at this
      simp only [List.length_nil] at this
      omega), show (⟨#[32]⟩ : ByteArray) = bA [32] from rfl, bA_append, bA_append]
    simp
theorem dec_itoa {n : Int} (h0 : 0 ≤ n) (h1 : n ≤ 100000) (w : World) : Calls Tryd.prog 24 #[.int .i64 n] w (RetT (bA (Lib.itoa n)) w) := by
  have := decimal_any n.toNat (by omega) w
  rwa [Int.toNat_of_nonneg h0, ← itoa_pos h0] at this

set_option maxHeartbeats 4000000 in
set_option maxRecDepth 100000 in
theorem reftext_any (a : Option Addr) (cp : Nat) (c : CL) (w : World) (hL : vMk c = true) (hr : RdM w a c.length (px c) (py c)) :
    Calls Tryd.prog 15 #[.slice a c.length cp] w (RetT (bA (txC c)) w) := by
  have HW := Lib.hid (Mks.of hL)
  have HR := Lib.hid hr
  have HLe := Lib.hid (Mks.of hL).few
  clear hL hr
  go_enter Tryd.func15, Tryd.ntmps15
  go_wp2_with fail
  go_loopw [3, 8] (fun s3 s8 wr => ∃ k : Nat, k ≤ c.length ∧ s8 = .int .i64 k ∧ s3 = .string (bA (txC (c.take k))) ∧ Hid (Gr w wr)) (fun _ s _ => c.length - (intOf s).toNat)
  case atStart => exact ⟨0, Nat.zero_le _, rfl, rfl, Lib.hid (Gr.refl _)⟩
  case round =>
    obtain ⟨k, hk, rfl, rfl, HG⟩ := hrel
    by_cases hlt : k < c.length
    · have i1 : (k : Int) < (c.length : Int) := by omega
      obtain ⟨b, o, rfl, hc⟩ := (HR.out.gr HG.out).at hlt
      obtain ⟨c0, c1⟩ := hc k hlt
      have w2 : IntKind.i64.wrap ((k : Int) + 1) = ((k + 1 : Nat) : Int) := by rw [IntWalk.i64_in _ (by have := HLe.out; omega)]; omega
      have hm := HW.out.ok _ (List.mem_of_getElem? (pxy hlt))
      have HN := Lib.hid (tx_next hlt)
      have s0 : (bA (txC (c.take k))).size ≤ 420 := by rw [bA_size]; exact tx_size HW.out k
      obtain ⟨z0, z1⟩ := box_ii wr (px c k) (py c k) 46
      have s1 : (bA (Lib.itoa (px c k))).size ≤ 19 := itoa_size hm.1 hm.2.1
      have s2 : (bA (Lib.itoa (py c k))).size ≤ 19 := itoa_size hm.2.2.1 hm.2.2.2
      have t1 : (bA (Lib.itoa (px c k))).size + 1 ≤ 9223372036854775807 := by omega
      have t2 : (bA (Lib.itoa (px c k))).size + 1 + (bA (Lib.itoa (py c k))).size ≤ 9223372036854775807 := by omega
      have t3 : (9223372036854775807 < (bA (Lib.itoa (px c k))).size + 1) = False := by simp; omega
      have t4 : (9223372036854775807 < (bA (Lib.itoa (px c k))).size + 1 + (bA (Lib.itoa (py c k))).size) = False := by simp; omega
      have t5 : (bA (txC (c.take k))).size + 1 ≤ 9223372036854775807 := by omega
      have t6 : (9223372036854775807 < (bA (txC (c.take k))).size + 1 + ((bA (Lib.itoa (px c k))).size + 1 + (bA (Lib.itoa (py c k))).size)) = False := by simp; omega
      have t7 : (9223372036854775807 < (bA (txC (c.take k))).size + ((bA (Lib.itoa (px c k))).size + 1 + (bA (Lib.itoa (py c k))).size)) = False := by simp; omega
      have CX := Lib.hid (fun wx => dec_itoa hm.1 hm.2.1 wx)
      have CY := Lib.hid (fun wx => dec_itoa hm.2.2.1 hm.2.2.2 wx)
      have HLk := Lib.hid hlt
      have HGA := Lib.hid ((Gr.refl wr).alloc (.cells #[.int .i64 (px c k), .int .i64 (py c k)] 46))
      clear hc hm hlt s1 s2 s0
      generalize hM : bA (txC (c.take (k + 1))) = M2 at *
      have HM2 := Lib.hid hM
      clear hM
      generalize bA (Lib.itoa (px c k)) = X at *
      generalize bA (Lib.itoa (py c k)) = Y at *
      generalize px c k = x at *
      generalize py c k = y at *
      by_cases h0 : k = 0
      · have k1 : ¬ 0 < k := by omega
        have HNf := Lib.hid (show M2 = bA (txC (c.take k)) ++ (X ++ ⟨#[61]⟩ ++ Y) by rw [HN.out, if_pos h0, h0]; rfl)
        clear HN h0
        generalize bA (txC (c.take k)) = S at *
        go_wp2_with fail
        go_region_held3 (fun w' => w'.cell? ⟨wr.heap.size, 0, none⟩ = some (.int .i64 x) ∧ w'.cell? ⟨wr.heap.size, 1, none⟩ = some (.int .i64 y))
          (first | go_keep | exact ⟨g3.cell z0, g3.cell z1⟩ | exact ⟨g4.cell (g3.cell z0), g4.cell (g3.cell z1)⟩)
          (first
            | (go_at_call 24; (with_reducible refine (CX.out _).mono ?_); rintro e w3 ⟨rfl, g3⟩; have G3 := Lib.hid (HGA.out.drew.trans g3); clear CX)
            | (go_at_call 24; (with_reducible refine (CY.out _).mono ?_); rintro e w4 ⟨rfl, g4⟩; have G4 := Lib.hid (G3.out.trans g4); clear CY))
        go_wp2_with fail
        go_roundw
        case rel => exact ⟨k + 1, HLk.out, by go_num, congrArg Value.string (HNf.out.symm.trans HM2.out.symm), Lib.hid (HG.out.trans G4.out)⟩
        case measure => have := HLk.out; simp [intOf]; omega
      · have k1 : 0 < k := by omega
        have HNf := Lib.hid (show M2 = bA (txC (c.take k)) ++ ⟨#[32]⟩ ++ (X ++ ⟨#[61]⟩ ++ Y) by rw [HN.out, if_neg h0])
        clear HN h0
        generalize bA (txC (c.take k)) = S at *
        go_wp2_with fail
        go_region_held3 (fun w' => w'.cell? ⟨wr.heap.size, 0, none⟩ = some (.int .i64 x) ∧ w'.cell? ⟨wr.heap.size, 1, none⟩ = some (.int .i64 y))
          (first | go_keep | exact ⟨g3.cell z0, g3.cell z1⟩ | exact ⟨g4.cell (g3.cell z0), g4.cell (g3.cell z1)⟩)
          (first
            | (go_at_call 24; (with_reducible refine (CX.out _).mono ?_); rintro e w3 ⟨rfl, g3⟩; have G3 := Lib.hid (HGA.out.drew.trans g3); clear CX)
            | (go_at_call 24; (with_reducible refine (CY.out _).mono ?_); rintro e w4 ⟨rfl, g4⟩; have G4 := Lib.hid (G3.out.trans g4); clear CY))
        go_wp2_with fail
        go_roundw
        case rel => exact ⟨k + 1, HLk.out, by go_num, congrArg Value.string (HNf.out.symm.trans HM2.out.symm), Lib.hid (HG.out.trans G4.out)⟩
        case measure => have := HLk.out; simp [intOf]; omega
    · obtain rfl : k = c.length := by omega
      have i1 : ¬ (c.length : Int) < (c.length : Int) := by omega
      rw [List.take_length]
      clear HW HR
      generalize bA (txC c) = T at *
      go_wp2_with fail
      go_ret
      exact ⟨rfl, HG.out⟩
end Go.Proofs.YtdlbgelidcfmiaaDoor
