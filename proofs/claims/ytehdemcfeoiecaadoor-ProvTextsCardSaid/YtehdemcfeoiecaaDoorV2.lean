/- Contracts of chapter 9: the products of a sum, in order. -/
import Derived.Test.YtehdemcfeoiecaaDoorV1
import Derived.Test.YtehdemcfeoiecaaDoorW3
import Derived.Shelf.SlIter.Nil
namespace Go.Proofs
open Go.RowKit Go.Maps Go.Sort Go.Shelf
theorem Tryd.sorts87 (m : Nat) : AnyZ.SortsIn Tryd.prog Tryd.sorted87_ren Fence.wide m :=
  ⟨fun blk off cap ss W hH hblk hsz => callsIn_wide.2 (AnyM.slices_Sort_string Tryd.sort121 blk off cap ss W hH hblk hsz),
   fun p cap W => callsIn_wide.2 (AnyM.slices_Sort_string_none Tryd.sort121 p cap W)⟩
theorem Tryd.maps_Keys_88 (mb : Option Nat) (W : World) : CallsIn Fence.wide 5 Tryd.prog 88 #[.map mb] W fun e w' => e = .returned (.func (.func 122) #[] #[.pointer (some ⟨W.heap.size, 0, none⟩)]) ∧ w' = W.alloc (.cells #[.map mb] 75) :=
  AnyZ.keys_in Tryd.keys88 Fence.wide 5 trivial rfl mb W
set_option maxHeartbeats 1000000 in
theorem Tryd.slices_Sorted_keys_87_88 {H : Type} (b nn : Nat) (D0 : DataW H) (R : Value → Option (DataW H × List MemPlace)) (w : World) (hown : w.ownsMap Tryd.prog 9 R b nn D0) (hmax : Maps.size D0 ≤ maxLen) (hbytes : Maps.size D0 * 16 ≤ 140737488355328) :
    CallsIn Fence.wide 5 Tryd.prog 87 #[.func (.func 122) #[] #[.pointer (some ⟨w.heap.size, 0, none⟩)]] (w.alloc (.cells #[.map (some b)] 75)) fun e w' => ∃ (v : Value) (ss : List (List UInt8)), e = .returned v ∧ ss.Perm (strKeys D0) ∧
      w'.ownsRow (w.alloc (.cells #[.map (some b)] 75)).heap.size 9 1 v ss.length ((ss.mergeSort (fun x y => decide (x ≤ y))).map encStr) ∧ (v = .slice none 0 0 ↔ ss = []) ∧ Below (w.alloc (.cells #[.map (some b)] 75)).heap.size (w.alloc (.cells #[.map (some b)] 75)) w' := by
  have hbl := hown.lt
  have hseq : SeqGives Fence.wide 2 Tryd.prog 122 #[.pointer (some ⟨w.heap.size, 0, none⟩)] encStr (fun ss => ss.Perm (strKeys D0)) (Maps.size D0) (w.alloc (.cells #[.map (some b)] 75)) :=
    AnyZ.keys_gives (ρ := Tryd.keys88_ren) { Tryd.keys88 with } Fence.wide _ trivial rfl (by omega) w.heap.size b nn D0 _ (by simp) (by simp) (by
      obtain ⟨es, clock, hb, Ft, hs, hD⟩ := hown
      exact ⟨es, clock, (Below.heap_alloc _ _ b hbl).trans hb, Ft, hs, hD⟩)
  exact AnyZ.sorted_in Tryd.sorted87 Fence.wide 5 trivial trivial trivial trivial rfl (by omega) (Tryd.sorts87 _) (enters_of Tryd.func121 (by kernel_rfl) rfl) 122 #[.pointer (some ⟨w.heap.size, 0, none⟩)] trivial (enters_of Tryd.func122 (by kernel_rfl) rfl) _ _ hmax hbytes _ hseq
end Go.Proofs
namespace Go.Proofs.YtehdemcfeoiecaaDoor
open Go.RowKit Go.Firn Go.Shelf Go.Maps Go.WideMaps

theorem info34 : (Tryd.prog.info? 34).map (fun i => (i.zero, i.size, i.bytes)) = some (some (.agg #[.string ⟨#[]⟩, .int .i64 0]), 2, 24) := by kernel_rfl
/-- The keys of a list, read by index. -/
def RdT (w : World) (v : Value) (L : SL) : Prop := ∃ a c, v = .slice a L.length c ∧ (L.length = 0 ∨ ∃ b, a = some ⟨b, 0, none⟩ ∧ ∀ i, i < L.length → w.cell? ⟨b, i, none⟩ = some (.string (sx L i)))
theorem RdT.gr {w w' : World} {v : Value} {L : SL} (h : RdT w v L) (g : Gr w w') : RdT w' v L := by
  obtain ⟨a, c, h1, h2⟩ := h
  refine ⟨a, c, h1, ?_⟩
  rcases h2 with h2 | ⟨b, hb, h3⟩
  · exact .inl h2
  · exact .inr ⟨b, hb, fun i hi => g.cell (h3 i hi)⟩
theorem sorted_keys {L : SL} (hS : Srt L) {ss : List (List UInt8)} (h : ss.Perm (L.map (·.1))) : ss.mergeSort (fun x y => decide (x ≤ y)) = L.map (·.1) := by
  have tr : ∀ a b c : List UInt8, decide (a ≤ b) = true → decide (b ≤ c) = true → decide (a ≤ c) = true := fun a b c h1 h2 => by simp only [decide_eq_true_eq] at *; exact List.le_trans h1 h2
  have tt : ∀ a b : List UInt8, (decide (a ≤ b) || decide (b ≤ a)) = true := fun a b => by simp only [Bool.or_eq_true, decide_eq_true_eq]; exact List.le_total a b
  refine List.Perm.eq_of_pairwise (le := fun a b => decide (a ≤ b) = true) (fun a b _ _ h1 h2 => ?_) (List.pairwise_mergeSort tr tt ss) ?_ ((List.mergeSort_perm ss _).trans h)
  · simp only [decide_eq_true_eq] at h1 h2
    exact List.le_antisymm h1 h2
  · rw [List.pairwise_map]
    exact hS.imp fun h => by simpa using List.le_of_lt h
theorem RdT.of_row {w : World} {base : Nat} {v : Value} {L : SL} (h : w.ownsRow base 9 1 v L.length ((L.map (·.1)).map Go.Proofs.encStr)) : RdT w v L := by
  have h0 := h
  obtain ⟨hl, hv⟩ := h
  rcases hv with ⟨rfl, hz⟩ | ⟨g, cap, cur, rfl, hb, hg, hnc, hcm, hcs, htake⟩
  · exact ⟨none, 0, by rw [hz], .inl hz⟩
  · refine ⟨_, _, rfl, .inr ⟨g, rfl, fun i hi => ?_⟩⟩
    have c0 := h0.cells (g := g) rfl i (.string (sx L i)) (by
      rw [List.getElem?_map, List.getElem?_map, List.getElem?_eq_getElem hi]
      simp [sx, List.getD_eq_getElem?_getD, List.getElem?_eq_getElem hi])
    rw [add_flat rfl] at c0
    simpa using c0
theorem keys_row {w : World} {base : Nat} {v : Value} {L : SL} {ss : List (List UInt8)} (hL : Srt L) (hS : ss.Perm (strKeys (mapD (H := Unit) L))) (h : w.ownsRow base 9 1 v ss.length ((ss.mergeSort (fun x y => decide (x ≤ y))).map Go.Proofs.encStr)) : RdT w v L := by
  rw [mapD_keys] at hS
  have hl : ss.length = L.length := by have := hS.length_eq; rwa [List.length_map] at this
  rw [sorted_keys hL hS, hl] at h
  exact RdT.of_row h
theorem take_succ_sx {L : SL} {k : Nat} (h : k < L.length) : L.take (k + 1) = L.take k ++ [((sx L k).data.toList, sy L k)] := by
  have e : ((sx L k).data.toList, sy L k) = L[k] := by simp [sx, sy, List.getD_eq_getElem?_getD, List.getElem?_eq_getElem h]
  rw [List.take_succ_eq_append_getElem h, e]
theorem sx_mem {L : SL} {k : Nat} (h : k < L.length) : ((sx L k).data.toList, sy L k) ∈ L := by
  have : ((sx L k).data.toList, sy L k) = L[k] := by simp [sx, sy, List.getD_eq_getElem?_getD, List.getElem?_eq_getElem h]
  rw [this]; exact List.getElem_mem h
theorem cell_newp (w : World) (s : ByteArray) (q : Int) (e : TypeId) {b : Nat} (hb : w.heap.size = b) : (w.alloc (.cells #[.string s, .int .i64 q] e)).cell? ⟨b, 0, none⟩ = some (.string s) ∧ (w.alloc (.cells #[.string s, .int .i64 q] e)).cell? ⟨b, 1, none⟩ = some (.int .i64 q) := by
  subst hb
  exact box2 w s q e
/-- A sum of products: whether it is one. -/
theorem vS_of {L : SL} (h : VL L) : vS (sx L) (sy L) L.length = !overL L := by
  cases ho : overL L with
  | false => exact vS_iff.2 ⟨by rw [ofS_sx]; exact h, by rw [ofS_sx]; exact ho⟩
  | true =>
    cases hv : vS (sx L) (sy L) L.length with
    | false => rfl
    | true =>
      have := (vS_iff.1 hv).2
      rw [ofS_sx, ho] at this
      cases this

set_option maxRecDepth 100000 in
set_option maxHeartbeats 8000000 in
theorem products_any (b n : Nat) (L : SL) (w : World) (ho : OwL w b n L) (hn : n ≤ 900000) (hV : VL L) (hz : ∀ x ∈ L, x.1.length ≤ 1000) (hT : tot (fun _ => 1) L ≤ 4000000000000000000) :
    Calls Tryd.prog 61 #[.map (some b)] w (RetSB L (!overL L) w) := by
  have C1 := Lib.hid (show Calls Tryd.prog 88 #[.map (some b)] w fun e w' => e = .returned (.func (.func 122) #[] #[.pointer (some ⟨w.heap.size, 0, none⟩)]) ∧ w' = w.alloc (.cells #[.map (some b)] 75) from callsIn_wide.1 (Tryd.maps_Keys_88 (some b) w))
  have hLn : L.length ≤ 900000 := Nat.le_trans ho.le hn
  have C2 := Lib.hid (callsIn_wide.1 (Tryd.slices_Sorted_keys_87_88 (H := Unit) b n (mapD L) (plainElem (H := Unit) Tryd.prog 3) w ho (by rw [mapD_size]; unfold maxLen; omega) (by rw [mapD_size]; omega)))
  have HO := Lib.hid ho
  have HV := Lib.hid hV
  have HT := Lib.hid hT
  have HS := Lib.hid (fun i (hi : i < L.length) => show (sx L i).size ≤ 9223372036854775807 by
    have hm : L[i] ∈ L := List.getElem_mem hi
    have := hz _ hm
    rw [← size_key]
    simp only [sx, List.getD_eq_getElem?_getD, List.getElem?_eq_getElem hi, Option.getD_some]
    simp
    omega)
  clear ho hV hT hz
  go_enter Tryd.func61, Tryd.ntmps61
  go_wp2_with (first
    | (go_at_call 88; refine C1.out.mono ?_; rintro e w1 ⟨rfl, rfl⟩)
    | (go_at_call 87; refine C2.out.mono ?_; rintro e w2 ⟨v, ss, rfl, hS, hrow, hnil, hb⟩; obtain ⟨a1, c1, rfl, hk⟩ := keys_row HV.out.1 hS hrow; have HK := Lib.hid (show RdT w2 (.slice a1 L.length c1) L from ⟨a1, c1, rfl, hk⟩); have HB := Lib.hid (show Gr w w2 from ((Gr.refl w).alloc _).trans hb); clear hrow hS hnil hb hk))
  clear C1 C2
  go_loopw [4, 11] (fun vo si wr => ∃ k : Nat, k ≤ L.length ∧ si = .int .i64 k ∧ Hid (OwnS w2 34 wr vo (L.take k))) (fun _ si _ => L.length - (intOf si).toNat)
  case atStart => exact ⟨0, Nat.zero_le _, rfl, Lib.hid (OwnS.nil w2 34)⟩
  case round =>
    obtain ⟨k, hk, rfl, HOw⟩ := hrel
    by_cases hlt : k < L.length
    · have i1 : (k : Int) < (L.length : Int) := by omega
      obtain ⟨a2, c2, e2, hk2⟩ := HK.out.gr HOw.out.2
      obtain ⟨rfl, rfl⟩ : a1 = a2 ∧ c1 = c2 := by simpa using e2
      obtain ⟨kb, rfl, hkc⟩ : ∃ kb, a1 = some ⟨kb, 0, none⟩ ∧ ∀ i, i < L.length → wr.cell? ⟨kb, i, none⟩ = some (.string (sx L i)) := by
        rcases hk2 with hk2 | hk2
        · omega
        · exact hk2
      have ck := hkc k hlt
      have HOm := Lib.hid (HO.out.gr (HB.out.trans HOw.out.2))
      have HTk := Lib.hid (take_succ_sx hlt)
      have HAt := Lib.hid (show ∀ v, (mapD (H := Unit) L).atKey (.string (sx L k).data.toList) (.lit (.int .i64 0)) = .lit (.int .i64 v) → v = sy L k from fun v hv => by
        rw [mapD_at] at hv
        have := atL_mem HV.out.1 (sx_mem hlt)
        simp only [] at this
        rw [this] at hv
        simpa using hv.symm)
      have hkey := Lib.hid (show keyOf Tryd.prog 9 (.string (sx L k)) = some (.string (sx L k).data.toList) from keyOf_string_mk Tryd.underlying9 (key_len (HS.out k hlt)))
      have hl9 := Lib.hid (show (L.take k).length < 999999 by rw [List.length_take]; omega)
      clear hkc e2 hk2
      generalize sx L k = s at *
      generalize sy L k = q at *
      obtain ⟨Lk, hLk⟩ : ∃ Lk, L.take k = Lk := ⟨_, rfl⟩
      rw [hLk] at HOw HTk hl9
      have HLk := Lib.hid hLk
      clear hLk
      generalize hN : L.length = N at *
      go_wp2_with (first
        | (at_lookup; refine wpList_lookup_own_int _ rfl _ _ 75 rfl 9 3 .i64 law9 Tryd.underlying75 Tryd.underlying3 (zero3 _) b n _ rfl HOm.out _ _ rfl hkey.out ?_; intro v hv _; obtain rfl := HAt.out v hv; clear hv)
        | (at_builtin; refine wpList_app_prod rfl _ _ 22 34 rfl Tryd.underlying22 info34 _ Lk rfl (HOw.out.alloc _) _ _ _ rfl (cell_newp _ _ _ _ rfl) hl9.out ?_; intro v1 w3 hown3 _; have H3 := Lib.hid hown3; clear hown3)
        | go_in)
      go_roundw
      case rel => exact ⟨k + 1, by omega, by go_num, Lib.hid (by rw [HTk.out]; exact H3.out)⟩
      case measure => simp [intOf]; omega
    · obtain rfl : k = L.length := by omega
      have i1 : ¬ (L.length : Int) < (L.length : Int) := by omega
      rw [List.take_length] at HOw
      obtain ⟨a3, c3, rfl, l1, l2, hrd⟩ := HOw.out.rd
      have CV := Lib.hid (ValidSum_any a3 L.length c3 (sx L) (sy L) wr (by omega) (fun i hi => HS.out i hi) hrd)
      rw [vS_of HV.out] at CV
      have HG := Lib.hid (show Gr w wr from HB.out.trans HOw.out.2)
      have HRd := Lib.hid (And.intro l1 (And.intro l2 hrd))
      clear hrd l1 l2 HOw
      generalize overL L = ov at *
      go_wp2_with (go_at_call 19; (with_reducible refine CV.out.mono ?_); rintro e w4 ⟨rfl, g4⟩; have G4 := Lib.hid g4; clear g4)
      refine bodyPost_ret (v := .tuple #[.slice a3 L.length c3, .bool (!ov)]) (by simp [results, Tryd.results61, go_sem]) rfl ?_
      exact ⟨a3, c3, rfl, HRd.out.1, HRd.out.2.1, HRd.out.2.2.gr G4.out, HG.out.trans G4.out⟩

end Go.Proofs.YtehdemcfeoiecaaDoor
