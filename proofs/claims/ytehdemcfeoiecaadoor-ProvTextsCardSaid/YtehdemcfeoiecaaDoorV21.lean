/- Contracts of chapter 9: the text of a sum, the program's own; Format of both. -/
import Derived.Test.YtehdemcfeoiecaaDoorV20
namespace Go.Proofs.YtehdemcfeoiecaaDoor
open Go.RowKit Go.Firn Go.Shelf Go.Maps Go.WideMaps

/-- A row of texts of the call's own. -/
def OwnW (w0 w : World) (v : Value) (L : List ByteArray) : Prop := w.ownsRow w0.heap.size 9 1 v L.length (L.map Value.string) ∧ Gr w0 w
theorem OwnW.nil {w0 w : World} (g : Gr w0 w) : OwnW w0 w (.slice none 0 0) [] := ⟨World.ownsRow_nil w _ _ _, g⟩
theorem OwnW.gr {w0 w w' : World} {v : Value} {L : List ByteArray} (h : OwnW w0 w v L) (g : Gr w w') : OwnW w0 w' v L :=
  ⟨h.1.kept (row := none) ⟨g.os, g.tape, g.output, Gr.size g, fun k hk _ => Below.block g k hk⟩ (by cases v.ownBlock <;> simp), h.2.trans g⟩
theorem OwnW.row {w0 w : World} {v : Value} {L : List ByteArray} (h : OwnW w0 w v L) : (v = .slice none 0 0 ∧ L = []) ∨ ∃ g c, v = .slice (some ⟨g, 0, none⟩) L.length c ∧ L.length ≤ c ∧ c ≤ maxLen ∧ (∀ i x, L[i]? = some x → w.cell? ⟨g, i, none⟩ = some (.string x) ∧ w.frozen? ⟨g, i, none⟩ = false) ∧ w0.heap.size ≤ g ∧ g < w.heap.size := by
  have h0 := h.1
  obtain ⟨hl, hv⟩ := h.1
  rcases hv with ⟨rfl, hz⟩ | ⟨g, cap, cur, rfl, hb, hg, hnc, hcm, hcs, htake⟩
  · exact .inl ⟨rfl, List.length_eq_zero_iff.1 hz⟩
  · refine .inr ⟨_, _, rfl, hnc, hcm, fun i x hx => ?_, (h0.lt g rfl).1, (h0.lt g rfl).2⟩
    have c0 := h0.cells (g := g) rfl i (.string x) (by simp [hx])
    rw [add_flat rfl] at c0
    simp only [Nat.zero_add] at c0
    exact ⟨c0, h0.frozenAt _⟩
theorem info9 : ∃ i : TypeInfo, Tryd.prog.info? 9 = some i ∧ i.zero = some (.string ⟨#[]⟩) ∧ i.size = 1 ∧ i.bytes = 16 := by
  have h : (Tryd.prog.info? 9).map (fun i => (i.zero, i.size, i.bytes)) = some (some (.string ⟨#[]⟩), 1, 16) := by kernel_rfl
  cases hi : Tryd.prog.info? 9 with
  | none => rw [hi] at h; cases h
  | some i => rw [hi] at h; simp at h; exact ⟨i, rfl, h.1, h.2.1, h.2.2⟩
theorem wpList_app_str {ops : Array Oper} {rest : List Oper} {o : Oper} {a : Act} {Q : Exit → Act → World → Prop} (hgd : o.guard = none) (s x : Operand)
    (ho : o.op = .call { callee := .builtin .append, args := #[s, x], argTypes := #[68, 68] })
    {w0 w : World} (v : Value) (L : List ByteArray) (hs : a.eval s = v) (hown : OwnW w0 w v L)
    (b : Nat) (t : ByteArray) (hx : a.eval x = .slice (some ⟨b, 0, none⟩) 1 1) (hc : w.cell? ⟨b, 0, none⟩ = some (.string t)) (hk : L.length < 999999)
    (h : ∀ v' w', OwnW w0 w' v' (L ++ [t]) → wpList Tryd.prog ops Q rest (a.put o.dst v') w') : wpList Tryd.prog ops Q (o :: rest) a w := by
  obtain ⟨i0, hi, hz0, hz1, hz2⟩ := info9
  refine wpList_append_own w hgd s x 68 ho w0.heap.size 9 i0 _ 1 16 Tryd.underlying68 hi hz0 hz1 hz2 rfl (by decide) v L.length (L.map Value.string) hs hown.1 ⟨b, 0, none⟩ 1 1 [.string t] hx rfl ?_ ?_ (by unfold maxLen; omega) (by omega) hown.2.size ?_
  · intro j u hu
    cases j with
    | zero => simp at hu; subst hu; exact hc
    | succ j => simp at hu
  · intro u hu
    simp at hu
    subst hu
    rfl
  · intro v' w' h1 h2 _
    refine h v' w' ⟨?_, hown.2.grown h2 fun k hk => (hown.1.lt k hk).1⟩
    rw [List.length_append, List.map_append]
    exact h1

theorem take_add {L : SL} {k : Nat} (h : k < L.length) : L.take (k + 1) = L.take k ++ [((sx L k).data.toList, sy L k)] := by
  rw [List.take_add_one, key_sx h]
  rfl
/-- The table of powers of ten. -/
def Pow10 (w : World) : Prop := Lib.TabIs Tryd.prog w "internal/strconv.uint64pow10" .u64 Lib.pow10Tab
theorem Pow10.gr {w w' : World} (h : Pow10 w) (g : Gr w w') : Pow10 w' := Lib.tabBelow_of_tabIs h w' g
theorem itoa_any (n : Int) (h0 : 1 ≤ n) (h1 : n ≤ 100000) (w : World) (hT : Pow10 w) : Calls Tryd.prog 75 #[.int .i64 n] w (RetT (bA (Lib.itoa n)) w) := by
  refine (Any.strconv_Itoa Tryd.itoa75 n (by omega) (by omega) w hT).mono ?_
  rintro e w' ⟨rfl, k, os, rfl⟩
  exact ⟨rfl, Lib.below_grow _ _ (Nat.le_refl _) _ _⟩

set_option maxRecDepth 100000 in
set_option maxHeartbeats 8000000 in
theorem text_any (a : Option Addr) (cp : Nat) (L : SL) (w : World) (hT : Pow10 w) (hL : vL L = true) (hr : RdS w a L.length (sx L) (sy L)) :
    Calls Tryd.prog 49 #[.slice a L.length cp] w (RetT (bA (txL L)) w) := by
  by_cases hn : L = []
  · subst hn
    go_enter Tryd.func49, Tryd.ntmps49
    go_wp2_with fail
    go_ret
    exact ⟨rfl, Gr.refl _⟩
  have hl1 : ¬ L.length = 0 := fun e => hn (List.length_eq_zero_iff.1 e)
  have hl0 : ((L.length : Int) == 0) = false := by simpa using hn
  have HE := Lib.hid (txL_is hn)
  have HW := Lib.hid (Wds.of hL)
  have HR := Lib.hid hr
  have HLe := Lib.hid (vL_ok hL).le
  have HT := Lib.hid hT
  clear hL hr hT hn
  go_enter Tryd.func49, Tryd.ntmps49
  go_wp2_with fail
  go_loopw [3, 12] (fun s3 s12 wr => ∃ k : Nat, k ≤ L.length ∧ s12 = .int .i64 k ∧ Hid (OwnW w wr s3 ((L.take k).map fun x => bA (wdL x)))) (fun _ s _ => L.length - (intOf s).toNat)
  case atStart => exact ⟨0, Nat.zero_le _, rfl, Lib.hid (OwnW.nil (Gr.refl _))⟩
  case round =>
    obtain ⟨k, hk, rfl, HO⟩ := hrel
    by_cases hlt : k < L.length
    · have i1 : (k : Int) < (L.length : Int) := by omega
      obtain ⟨b, o, rfl, hc⟩ := (HR.out.gr HO.out.2).at hlt
      obtain ⟨c0, c1⟩ := hc k hlt
      have w2 : IntKind.i64.wrap ((k : Int) + 1) = ((k + 1 : Nat) : Int) := by rw [IntWalk.i64_in _ (by have := HLe.out; omega)]; omega
      have hx := key_sx hlt
      have hm := List.mem_of_getElem? hx
      have b1 : 1 ≤ sy L k := HW.out.pos _ hm
      have b2 : sy L k ≤ 100000 := HW.out.le _ hm
      have b3 := HW.out.len _ hm
      have HN := Lib.hid (show (L.take (k + 1)).map (fun x => bA (wdL x)) = (L.take k).map (fun x => bA (wdL x)) ++ [bA (wdL ((sx L k).data.toList, sy L k))] by rw [take_add hlt, List.map_append]; rfl)
      have HKl := Lib.hid (show ((L.take k).map fun x => bA (wdL x)).length < 999999 by rw [List.length_map, List.length_take]; have := HLe.out; omega)
      obtain ⟨z0, z1⟩ := box2 wr (sx L k) (sy L k) 34
      have hs3 : (sx L k).size ≤ 12 := by rw [← size_key]; exact b3
      have hD : (bA (Lib.itoa (sy L k))).size ≤ 19 := by
        rw [bA_size, itoa_pos (by omega)]
        exact dec_len (by omega)
      have t1 : (bA (Lib.itoa (sy L k))).size + (sx L k).size ≤ 9223372036854775807 := by omega
      have CI := Lib.hid (fun wx (g : Gr wr wx) => itoa_any (sy L k) b1 b2 wx (HT.out.gr (HO.out.2.trans g)))
      have HLk := Lib.hid hlt
      have HOA := Lib.hid (fun wx (g : Gr wr wx) => HO.out.gr g)
      have HGA := Lib.hid ((Gr.refl wr).alloc (.cells #[.string (sx L k), .int .i64 (sy L k)] 34))
      clear hc hx hm b3 hlt hs3
      have HWd : bA (wdL ((sx L k).data.toList, sy L k)) = bA (if sy L k = 1 ∧ (sx L k).toList ≠ [] then [] else Lib.itoa (sy L k)) ++ sx L k := by
        unfold wdL
        rw [← bA_append, ByteArray.toList_eq]
        rfl
      generalize hW : bA (wdL ((sx L k).data.toList, sy L k)) = W at *
      generalize hM : (L.take (k + 1)).map (fun x => bA (wdL x)) = M2 at *
      have HM2 := Lib.hid hM
      clear hM hW
      generalize (L.take k).map (fun x => bA (wdL x)) = M1 at *
      generalize sx L k = x at *
      generalize sy L k = m at *
      by_cases hm1 : m = 1
      · by_cases hxe : x.toList = []
        · rw [if_neg (fun h => h.2 hxe)] at HWd
          subst hm1
          have HWe := Lib.hid HWd
          clear HWd b1 b2 hD
          generalize bA (Lib.itoa 1) = D at *
          go_wp2_with (first
            | (go_at_call 75; (with_reducible refine (CI.out _ HGA.out).mono ?_); rintro e w3 ⟨rfl, g3⟩; have G3 := Lib.hid (HGA.out.trans g3); have z0 := g3.cell z0; have z1 := g3.cell z1; clear g3)
            | (at_builtin; refine wpList_app_str rfl _ _ rfl _ _ rfl (HOA.out _ (G3.out.alloc _)) _ _ rfl (cell_new1 _ _ 9) HKl.out ?_; intro v1 w4 hown; have H1 := Lib.hid hown; clear hown))
          go_roundw
          case rel => exact ⟨k + 1, HLk.out, by go_num, Lib.hid (by rw [HM2.out, HN.out, HWe.out]; exact H1.out)⟩
          case measure => have := HLk.out; simp [intOf]; omega
        · rw [if_pos ⟨hm1, hxe⟩] at HWd
          subst hm1
          have HWe := Lib.hid HWd
          clear HWd b1 b2 hD
          have xe : x.toList.isEmpty = false := by simp [hxe]
          clear hxe
          have t3 : x.size ≤ 9223372036854775807 := by omega
          generalize bA (Lib.itoa 1) = D at *
          go_wp2_with (first
            | (go_at_call 75; (with_reducible refine (CI.out _ HGA.out).mono ?_); rintro e w3 ⟨rfl, g3⟩; have G3 := Lib.hid (HGA.out.trans g3); have z0 := g3.cell z0; have z1 := g3.cell z1; clear g3)
            | (at_builtin; refine wpList_app_str rfl _ _ rfl _ _ rfl (HOA.out _ (G3.out.alloc _)) _ _ rfl (cell_new1 _ _ 9) HKl.out ?_; intro v1 w4 hown; have H1 := Lib.hid hown; clear hown))
          go_roundw
          case rel => exact ⟨k + 1, HLk.out, by go_num, Lib.hid (by rw [HM2.out, HN.out, HWe.out]; exact H1.out)⟩
          case measure => have := HLk.out; simp [intOf]; omega
      · rw [if_neg (fun h => hm1 h.1)] at HWd
        have HWe := Lib.hid HWd
        clear HWd b1 b2 hD
        have n1 : (m == 1) = false := by simpa using hm1
        generalize bA (Lib.itoa m) = D at *
        go_wp2_with (first
          | (go_at_call 75; (with_reducible refine (CI.out _ HGA.out).mono ?_); rintro e w3 ⟨rfl, g3⟩; have G3 := Lib.hid (HGA.out.trans g3); have z0 := g3.cell z0; have z1 := g3.cell z1; clear g3)
          | (at_builtin; refine wpList_app_str rfl _ _ rfl _ _ rfl (HOA.out _ (G3.out.alloc _)) _ _ rfl (cell_new1 _ _ 9) HKl.out ?_; intro v1 w4 hown; have H1 := Lib.hid hown; clear hown))
        go_roundw
        case rel => exact ⟨k + 1, HLk.out, by go_num, Lib.hid (by rw [HM2.out, HN.out, HWe.out]; exact H1.out)⟩
        case measure => have := HLk.out; simp [intOf]; omega
    · obtain rfl : k = L.length := by omega
      have i1 : ¬ (L.length : Int) < (L.length : Int) := by omega
      rcases HO.out.row with ⟨rfl, h0⟩ | ⟨g, c, rfl, h1, h2, h3, h4, h5⟩
      · exfalso
        have := congrArg List.length h0
        rw [List.length_map, List.length_take] at this
        simp only [List.length_nil] at this
        omega
      · have hl : ((L.take L.length).map fun x => bA (wdL x)).length = L.length := by rw [List.length_map, List.length_take]; omega
        have hj : Lib.join (((L.take L.length).map fun x => bA (wdL x)).map (·.data.toList)) [43] = jnL L := by
          rw [List.take_length, List.map_map]
          rfl
        have hJ := Any.strings_Join Tryd.join76 Tryd.joinX g 0 c ((L.take L.length).map fun x => bA (wdL x)) ⟨#[43]⟩ wr (fun j x hx => by rw [Nat.zero_add]; exact (h3 j x hx).1) h5 (by rw [hl]; have := HLe.out; omega) h1 (by
          rw [show (⟨#[43]⟩ : ByteArray).data.toList = [43] from rfl, hj]
          have := jnL_size HW.out L.length
          rw [List.take_length] at this
          omega)
        rw [show (⟨#[43]⟩ : ByteArray).data.toList = [43] from rfl, hj, ← HE.out] at hJ
        have CJ := Lib.hid (show Calls Tryd.prog 76 #[.slice (some ⟨g, 0, none⟩) ((L.take L.length).map fun x => bA (wdL x)).length c, .string ⟨#[43]⟩] wr (RetT (bA (txL L)) wr) from hJ)
        have HG := Lib.hid HO.out.2
        clear hJ hj hl h1 h2 h3 h4 h5 HE HW HR HT HO
        generalize ((L.take L.length).map fun x => bA (wdL x)).length = N at *
        generalize bA (txL L) = T at *
        go_wp2_with (go_at_call 76; (with_reducible refine CJ.out.mono ?_); rintro e w3 ⟨rfl, g3⟩; have G3 := Lib.hid (HG.out.trans g3); clear g3)
        go_ret
        exact ⟨rfl, G3.out⟩

/-! ## Format -/
/-- A text and an error. -/
def RetTE (s : ByteArray) (E : Int) (w : World) (e : Ending) (w' : World) : Prop := e = .returned (.tuple #[.string s, .int .i64 E]) ∧ Gr w w'
def fmT (v : Bool) (L : SL) : ByteArray := if v = true then bA (txL L) else ⟨#[]⟩
def fmE (v : Bool) : Int := if v = true then 0 else 92
set_option maxHeartbeats 1000000 in
theorem Format_any (a : Option Addr) (n cp : Nat) (f : Nat → ByteArray) (g : Nat → Int) (w : World) (hT : Pow10 w) (hn : n ≤ 9223372036854775807) (hz : ∀ i, i < n → (f i).size ≤ 9223372036854775807) (hr : RdS w a n f g) :
    Calls Tryd.prog 28 #[.slice a n cp] w (RetTE (fmT (vS f g n) (ofS f g n)) (fmE (vS f g n)) w) := by
  have C1 := Lib.hid (ValidSum_any a n cp f g w hn hz hr)
  cases hv : vS f g n with
  | false =>
    rw [hv] at C1
    clear hv hz hr
    go_enter Tryd.func28, Tryd.ntmps28
    go_wp2_with (go_at_call 19; (with_reducible refine C1.out.mono ?_); rintro e w1 ⟨rfl, g1⟩; have G1 := Lib.hid g1; clear g1)
    refine bodyPost_ret (v := .tuple #[.string ⟨#[]⟩, .int .i64 92]) (by simp [results, Tryd.results28, go_sem]) rfl ?_
    exact ⟨rfl, G1.out⟩
  | true =>
    rw [hv] at C1
    have hL : vL (ofS f g n) = true := by rw [← vL_of]; exact hv
    have hr2 : RdS w a (ofS f g n).length (sx (ofS f g n)) (sy (ofS f g n)) := by
      rw [ofS_length]
      exact hr.congr fun i hi => ⟨(sx_ofS hi).1.symm, (sx_ofS hi).2.symm⟩
    have C2 := Lib.hid (fun wx (k : Gr w wx) => show Calls Tryd.prog 49 #[.slice a n cp] wx (RetT (bA (txL (ofS f g n))) wx) by
      have := text_any a cp (ofS f g n) wx (hT.gr k) hL (hr2.gr k)
      rwa [ofS_length] at this)
    show Calls Tryd.prog 28 _ w (RetTE (bA (txL (ofS f g n))) 0 w)
    clear hv hz hr hL hr2 hT
    generalize bA (txL (ofS f g n)) = T at *
    go_enter Tryd.func28, Tryd.ntmps28
    go_wp2_with (first
      | (go_at_call 19; (with_reducible refine C1.out.mono ?_); rintro e w1 ⟨rfl, g1⟩; have G1 := Lib.hid g1; clear g1)
      | (go_at_call 49; (with_reducible refine (C2.out _ G1.out).mono ?_); rintro e w2 ⟨rfl, g2⟩; have G2 := Lib.hid (G1.out.trans g2); clear g2))
    refine bodyPost_ret (v := .tuple #[.string T, .int .i64 0]) (by simp [results, Tryd.results28, go_sem]) rfl ?_
    exact ⟨rfl, G2.out⟩
set_option maxHeartbeats 1000000 in
theorem refFormat_any (a : Option Addr) (n cp : Nat) (f : Nat → ByteArray) (g : Nat → Int) (w : World) (hn : n ≤ 9223372036854775807) (hz : ∀ i, i < n → (f i).size ≤ 9223372036854775807) (hr : RdS w a n f g) :
    Calls Tryd.prog 29 #[.slice a n cp] w (RetTE (fmT (vS f g n) (ofS f g n)) (fmE (vS f g n)) w) := by
  have C1 := Lib.hid (refValidSum_any a n cp f g w hn hz hr)
  cases hv : vS f g n with
  | false =>
    rw [hv] at C1
    clear hv hz hr
    go_enter Tryd.func29, Tryd.ntmps29
    go_wp2_with (go_at_call 20; (with_reducible refine C1.out.mono ?_); rintro e w1 ⟨rfl, g1⟩; have G1 := Lib.hid g1; clear g1)
    refine bodyPost_ret (v := .tuple #[.string ⟨#[]⟩, .int .i64 92]) (by simp [results, Tryd.results29, go_sem]) rfl ?_
    exact ⟨rfl, G1.out⟩
  | true =>
    rw [hv] at C1
    have hL : vL (ofS f g n) = true := by rw [← vL_of]; exact hv
    have hr2 : RdS w a (ofS f g n).length (sx (ofS f g n)) (sy (ofS f g n)) := by
      rw [ofS_length]
      exact hr.congr fun i hi => ⟨(sx_ofS hi).1.symm, (sx_ofS hi).2.symm⟩
    have C2 := Lib.hid (fun wx (k : Gr w wx) => show Calls Tryd.prog 50 #[.slice a n cp] wx (RetT (bA (txL (ofS f g n))) wx) by
      have := reftext_any a cp (ofS f g n) wx hL (hr2.gr k)
      rwa [ofS_length] at this)
    show Calls Tryd.prog 29 _ w (RetTE (bA (txL (ofS f g n))) 0 w)
    clear hv hz hr hL hr2
    generalize bA (txL (ofS f g n)) = T at *
    go_enter Tryd.func29, Tryd.ntmps29
    go_wp2_with (first
      | (go_at_call 20; (with_reducible refine C1.out.mono ?_); rintro e w1 ⟨rfl, g1⟩; have G1 := Lib.hid g1; clear g1)
      | (go_at_call 50; (with_reducible refine (C2.out _ G1.out).mono ?_); rintro e w2 ⟨rfl, g2⟩; have G2 := Lib.hid (G1.out.trans g2); clear g2))
    refine bodyPost_ret (v := .tuple #[.string T, .int .i64 0]) (by simp [results, Tryd.results29, go_sem]) rfl ?_
    exact ⟨rfl, G2.out⟩
end Go.Proofs.YtehdemcfeoiecaaDoor
