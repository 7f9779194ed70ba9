/- Contracts of chapter 9: strings.SplitSeq: the iterator over the pieces of a text. Contracts of chapter 9: what the program's Parse calls, and its loop's state. -/
import Derived.Test.YtehdemcfeoiecaaDoorV20
import Derived.Test.YtehdemcfeoiecaaDoorRR
import Derived.Test.YtehdemcfeoiecaaDoorShele
import Derived.Test.YtehdemcfeoiecaaDoorRhe
import Derived.Test.YtehdemcfeoiecaaDoorV21
namespace Go.Proofs.YtehdemcfeoiecaaDoor
open Go.RowKit Go.Firn Go.Shelf Go.Maps Go.WideMaps
attribute [local go_sem] Oper.semAt_some
theorem wide_fn (f : FuncId) : Fence.wide.fn f = True := rfl
attribute [local simp] wide_fn

theorem idx_is (c : UInt8) : ∀ R : Key, (Lib.indexByte R c = -1 ∧ c ∉ R) ∨ ∃ o : Nat, Lib.indexByte R c = o ∧ o < R.length ∧ c ∉ R.take o ∧ R[o]? = some c
  | [] => .inl ⟨rfl, by simp⟩
  | b :: l => by
    unfold Lib.indexByte
    by_cases hb : (b == c) = true
    · right
      refine ⟨0, by rw [if_pos hb]; rfl, by simp, by simp, by simp at hb; simp [hb]⟩
    · rw [if_neg hb]
      have hne : b ≠ c := by simpa using hb
      rcases idx_is c l with ⟨h1, h2⟩ | ⟨o, h1, h2, h3, h4⟩
      · left
        rw [h1]
        exact ⟨rfl, by simp [h2, hne.symm]⟩
      · right
        refine ⟨o + 1, ?_, by simp; omega, ?_, by simpa using h4⟩
        · rw [h1]
          have : ((o : Int) == -1) = false := by simp
          rw [this]
          simp
        · rw [List.take_succ_cons]
          simp [h3, hne.symm]
theorem split_len (c : UInt8) : ∀ K : Key, (splitK c K).length ≤ K.length + 1
  | [] => by simp [splitK]
  | b :: r => by
    have := split_len c r
    unfold splitK
    split
    · simp; omega
    · obtain ⟨h, t, e⟩ := splitK_cons c r
      rw [e] at this ⊢
      simp at this ⊢
      omega
theorem split_none {c : UInt8} {R : Key} (h : c ∉ R) : splitK c R = [R] := splitK_no h
theorem split_some {c : UInt8} {R : Key} {o : Nat} (h1 : c ∉ R.take o) (h2 : R[o]? = some c) : splitK c R = R.take o :: splitK c (R.drop (o + 1)) := by
  obtain ⟨hl, e⟩ := List.getElem?_eq_some_iff.1 h2
  have ee : R = R.take o ++ c :: R.drop (o + 1) := by
    conv => lhs; rw [← List.take_append_drop o R]
    rw [List.drop_eq_getElem_cons hl, e]
  conv => lhs; rw [ee]
  exact splitK_app _ h1
theorem ext_key' (R : Key) (f i : Nat) : (bA R).extract f i = bA ((R.drop f).take (i - f)) := by
  refine ByteArray.ext ?_
  rw [ByteArray.data_extract]
  apply Array.toList_inj.1
  rw [Array.toList_extract, List.extract_eq_take_drop]
  rfl

/-- A piece as it is handed to a round. -/
def encK (x : Key) : Array Value := #[.string (bA x)]
/-- The cells of the blocks of K lie as they lay, and may be written as before. -/
def Kb (K : Nat → Prop) (W W' : World) : Prop := ∀ (p : Addr) (v : Value), K p.block → W.cell? p = some v → W'.cell? p = some v ∧ W'.frozen? p = W.frozen? p
theorem Kb.trans {K : Nat → Prop} {A B C : World} (h : Kb K A B) (k : Kb K B C) : Kb K A C := fun p v hp e => by
  obtain ⟨h1, h2⟩ := h p v hp e
  obtain ⟨k1, k2⟩ := k p v hp h1
  exact ⟨k1, k2.trans h2⟩
theorem Kb.putObj {K : Nat → Prop} (W : World) (l : Nat) (o o' : Obj) (h : W.heap[l]? = some o) (hc : o.isCells = false) : Kb K W (W.putObj l o') := fun _ _ _ e =>
  ⟨cell_kept e (grownBy_putObj' W l o') (fun r er => by cases er; exact ⟨o, h, hc⟩), frozen_kept e (grownBy_putObj' W l o') (fun r er => by cases er; exact ⟨o, h, hc⟩)⟩
theorem Kb.gr {K : Nat → Prop} {W W' : World} (g : Gr W W') : Kb K W W' := fun _ _ _ e => ⟨g.cell e, Below.frozen g (World.block_lt_of_cell? W _ e)⟩
/-- The iterator's own write. -/
def WbS (bs : Nat) (A B : World) : Prop := ∃ (t : ByteArray) (u : Value), A.cell? ⟨bs, 0, none⟩ = some u ∧ B = A.setCell ⟨bs, 0, none⟩ (.string t)
theorem WbS.keeps {bs : Nat} {A B : World} (h : WbS bs A B) : ∀ (k : Nat) (o : Obj), A.heap[k]? = some o → o.isCells = false → B.heap[k]? = some o := by
  obtain ⟨t, u, _, rfl⟩ := h
  intro k o hk ho
  exact (KeepsOthers.setCell A ⟨bs, 0, none⟩ (.string t)).same k o hk ho
/-- How long the text of a box is. -/
def boxLen (b : Nat) (w : World) : Nat := match w.cell? ⟨b, 0, none⟩ with | some (.string t) => t.size | _ => 0
theorem boxLen_of {b : Nat} {w : World} {t : ByteArray} (h : w.cell? ⟨b, 0, none⟩ = some (.string t)) : boxLen b w = t.size := by
  unfold boxLen
  rw [h]
theorem grows' {w w' : World} (g : Gr w w') : w.grownBy w' none := ⟨g.os, g.tape, g.output, Gr.size g, fun k hk _ => Below.block g k hk⟩

set_option maxHeartbeats 8000000 in
set_option maxRecDepth 100000 in
theorem splitSeq1_seq (m : Nat) (hm : 1 ≤ m) (bs bp bv : Nat) (h1 : bs ≠ bp) (h2 : bs ≠ bv) (c : UInt8) (s : ByteArray) (w : World) (hs : s.size ≤ 1000000) (hb1 : w.cell? ⟨bp, 0, none⟩ = some (.string ⟨#[c]⟩)) (hb2 : w.cell? ⟨bs, 0, none⟩ = some (.string s)) (hf2 : w.frozen? ⟨bs, 0, none⟩ = false) (hb3 : w.cell? ⟨bv, 0, none⟩ = some (.int .i64 0)) :
    SeqW Fence.wide m Tryd.prog 110 #[.pointer (some ⟨bp, 0, none⟩), .pointer (some ⟨bs, 0, none⟩), .pointer (some ⟨bv, 0, none⟩)] encK (Kb fun k => k = bs ∨ k = bp ∨ k = bv) (WbS bs) (fun x => x.length ≤ 1000000) (fun xs => xs = splitK c s.data.toList) (fun pre => ∃ t, splitK c s.data.toList = pre ++ t) (s.size + 1) w := fun l J Jx W hW hJ hJw hJx hY h0 => by
  have B1 : W.cell? ⟨bp, 0, none⟩ = some (.string ⟨#[c]⟩) := by rw [Below.cell hW (p := ⟨bp, 0, none⟩) (World.block_lt_of_cell? w _ hb1)]; exact hb1
  have B2 : W.cell? ⟨bs, 0, none⟩ = some (.string s) := by rw [Below.cell hW (p := ⟨bs, 0, none⟩) (World.block_lt_of_cell? w _ hb2)]; exact hb2
  have B3 : W.cell? ⟨bv, 0, none⟩ = some (.int .i64 0) := by rw [Below.cell hW (p := ⟨bv, 0, none⟩) (World.block_lt_of_cell? w _ hb3)]; exact hb3
  have F2 : W.frozen? ⟨bs, 0, none⟩ = false := by rw [Below.frozen hW (World.block_lt_of_cell? w _ hb2)]; exact hf2
  have HB := Lib.hid (And.intro B1 (And.intro B2 (And.intro B3 F2)))
  have YY := Lib.hid hY
  have JJ := Lib.hid hJ
  have JW := Lib.hid hJw
  have H0 := Lib.hid h0
  have HNe := Lib.hid (And.intro h1 h2)
  have HS := Lib.hid hs
  have HL := Lib.hid (show (splitK c s.data.toList).length ≤ s.size + 1 by rw [← size_key]; exact split_len c _)
  have C94 := Lib.hid (fun (R : Key) wx => show Calls Tryd.prog 94 #[.string (bA R), .string ⟨#[c]⟩] wx fun e w' => e = .returned (.int .i64 (Lib.indexByte R c)) ∧ wx = w' from Calls.mono (Any.strings_Index_one Tryd.idx94 (bA R) c wx) fun e w' ⟨h1, h2⟩ => ⟨h1, h2.symm⟩)
  clear hb1 hb2 hb3 hf2 hY hJ hJw hJx h0 hW B2 B3 F2 h1 h2 hs
  refine callsIn_of_wp Tryd.func110 rfl trivial ?_ rfl
  simp only [Tryd.ntmps110, List.size_toArray, List.length_cons, List.length_nil, Nat.reduceAdd, Nat.reduceSub, Array.replicate_succ, Array.replicate_zero, List.push_toArray, List.append_toArray, List.nil_append, List.cons_append]
  gi_wp2
  gi_loopw [7] (fun _ wr => ∃ (pre : List Key) (R : Key), Hid (splitK c s.data.toList = pre ++ splitK c R) ∧ Hid (R.length ≤ 1000000) ∧ Hid (J pre wr) ∧ Hid (wr.cell? ⟨bp, 0, none⟩ = some (.string ⟨#[c]⟩) ∧ wr.cell? ⟨bs, 0, none⟩ = some (.string (bA R)) ∧ wr.cell? ⟨bv, 0, none⟩ = some (.int .i64 0) ∧ wr.frozen? ⟨bs, 0, none⟩ = false)) (fun _ wr => boxLen bs wr)
  case atStart => exact ⟨[], s.data.toList, Lib.hid rfl, Lib.hid (by rw [size_key]; exact HS.out), H0, HB⟩
  case round =>
    obtain ⟨pre, R, HP, HR, HJ, HC⟩ := hrel
    obtain ⟨c1, c2, c3, c4⟩ := HC.out
    have C := Lib.hid (C94.out R wr)
    have HPl := Lib.hid (show pre.length < s.size + 1 by
      have := HL.out
      rw [HP.out, List.length_append] at this
      have h2 : 0 < (splitK c R).length := List.length_pos_iff.2 (splitK_ne c R)
      have := HS.out
      omega)
    clear C94 H0
    rcases idx_is c R with ⟨e1, e2⟩ | ⟨o, e1, e2, e3, e4⟩
    · rw [e1] at C
      have HE := Lib.hid (show splitK c s.data.toList = pre ++ [R] by rw [HP.out, split_none e2])
      obtain ⟨fn, tmps, assign, body, hy, hR⟩ := YY.out pre R wr HJ.out HR.out HPl.out
      have hy' : (Instr.yield l #[.string (bA R)]).run Tryd.prog wr = .ok (.round l fn tmps assign body) wr := hy
      have HRR := Lib.hid hR
      clear e1 e2 hy hR
      gi_wp2_with (gi_at_call 94; (with_reducible refine (callsIn_wide.2 C.out).mono ?_); rintro e w6 ⟨rfl, rfl⟩)
      refine HRR.out.mono ?_
      rintro e W' (⟨rfl, hJ', hk'⟩ | ⟨rfl, hX'⟩)
      · have J7 := Lib.hid hJ'
        clear hJ' hk'
        gi_wp2
        go_end0
        exact ⟨⟨_, rfl⟩, .inl ⟨_, HE.out.symm, J7.out⟩⟩
      · have X7 := Lib.hid hX'
        clear hX'
        gi_wp2
        go_end0
        exact ⟨⟨_, rfl⟩, .inr ⟨_, ⟨[], by rw [HE.out, List.append_nil]⟩, X7.out⟩⟩
    · rw [e1] at C
      have HE := Lib.hid (show splitK c s.data.toList = (pre ++ [R.take o]) ++ splitK c (R.drop (o + 1)) by rw [HP.out, split_some e3 e4]; simp)
      obtain ⟨fn, tmps, assign, body, hy, hR⟩ := YY.out pre (R.take o) wr HJ.out (by rw [List.length_take]; have := HR.out; omega) HPl.out
      have hy' : (Instr.yield l #[.string (bA (R.take o))]).run Tryd.prog wr = .ok (.round l fn tmps assign body) wr := hy
      have HRR := Lib.hid hR
      have hx1 : (bA R).extract 0 o = bA (R.take o) := by rw [ext_key']; simp
      have hx2 : (bA R).extract (o + 1) (bA R).size = bA (R.drop (o + 1)) := by
        rw [ext_key', bA_size, List.take_of_length_le (by rw [List.length_drop]; exact Nat.le_refl _)]
      have o0 : ¬ (o : Int) < 0 := by omega
      have o1 : (o : Int) ≤ ((bA R).size : Int) := by rw [bA_size]; omega
      have o2 : (o : Int) + 1 ≤ ((bA R).size : Int) := by rw [bA_size]; omega
      have v1 : IntKind.i64.wrap (o : Int) = (o : Int) := IntWalk.i64_in _ (by have := HR.out; omega)
      have v2 : IntKind.i64.wrap ((o : Int) + 1) = ((o + 1 : Nat) : Int) := by rw [IntWalk.i64_in _ (by have := HR.out; omega)]; omega
      have HO := Lib.hid e2
      clear e1 e2 e3 e4 hy hR
      gi_wp2_with (gi_at_call 94; (with_reducible refine (callsIn_wide.2 C.out).mono ?_); rintro e w6 ⟨rfl, rfl⟩)
      refine HRR.out.mono ?_
      rintro e W' (⟨rfl, hJ', hk'⟩ | ⟨rfl, hX'⟩)
      · have J7 := Lib.hid hJ'
        obtain ⟨k1, _⟩ := hk' ⟨bp, 0, none⟩ _ (.inr (.inl rfl)) c1
        obtain ⟨k2, k4⟩ := hk' ⟨bs, 0, none⟩ _ (.inl rfl) c2
        obtain ⟨k3, _⟩ := hk' ⟨bv, 0, none⟩ _ (.inr (.inr rfl)) c3
        rw [c4] at k4
        have HCn := Lib.hid (show (W'.setCell ⟨bs, 0, none⟩ (.string (bA (R.drop (o + 1))))).cell? ⟨bp, 0, none⟩ = some (.string ⟨#[c]⟩) ∧ (W'.setCell ⟨bs, 0, none⟩ (.string (bA (R.drop (o + 1))))).cell? ⟨bs, 0, none⟩ = some (.string (bA (R.drop (o + 1)))) ∧ (W'.setCell ⟨bs, 0, none⟩ (.string (bA (R.drop (o + 1))))).cell? ⟨bv, 0, none⟩ = some (.int .i64 0) ∧ (W'.setCell ⟨bs, 0, none⟩ (.string (bA (R.drop (o + 1))))).frozen? ⟨bs, 0, none⟩ = false from
          ⟨by rw [World.cell?_setCell_other _ _ _ _ (fun e => HNe.out.1 (congrArg Addr.block e))]; exact k1, cell_near k2 _, by rw [World.cell?_setCell_other _ _ _ _ (fun e => HNe.out.2 (congrArg Addr.block e))]; exact k3, by rw [World.frozen?_setCell]; exact k4⟩)
        have J8 := Lib.hid (JW.out _ W' _ J7.out ⟨bA (R.drop (o + 1)), _, k2, rfl⟩)
        have HM1 := Lib.hid (boxLen_of (b := bs) c2)
        have HM2 := Lib.hid (boxLen_of (b := bs) HCn.out.2.1)
        clear hJ' hk' c1 c2 c3 c4 hy'
        gi_wp2
        go_roundw
        case rel => exact ⟨_, _, HE, Lib.hid (by rw [List.length_drop]; have := HR.out; omega), J8, HCn⟩
        case measure =>
          rw [HM1.out, HM2.out, bA_size, bA_size, List.length_drop]
          have := HO.out
          omega
      · have X7 := Lib.hid hX'
        clear hX'
        gi_wp2
        refine bodyPost_ret (results_none rfl _ _ _) rfl ?_
        exact ⟨⟨_, rfl⟩, .inr ⟨_, ⟨_, HE.out⟩, X7.out⟩⟩

/-- SplitSeq: its iterator, and the boxes of its text, of what parts it, and of 0. -/
theorem SplitSeq_any (s p : ByteArray) (w : World) : Calls Tryd.prog 51 #[.string s, .string p] w fun e w' =>
    e = .returned (.func (.func 110) #[] #[.pointer (some ⟨w.heap.size + 1, 0, none⟩), .pointer (some ⟨w.heap.size, 0, none⟩), .pointer (some ⟨w.heap.size + 2, 0, none⟩)]) ∧
    w' = ((w.alloc (.cells #[.string s] 9)).alloc (.cells #[.string p] 9)).alloc (.cells #[.int .i64 0] 3) := by
  have hmf : ∀ (fn : Fn) (first cap : Array Value) (w : World), (Instr.makeFunc fn first cap).run Tryd.prog w = .ok (.func fn first cap) w := fun _ _ _ _ => rfl
  go_enter Tryd.func51, Tryd.ntmps51
  go_wp2
  go_ret
  exact ⟨rfl, rfl⟩
end Go.Proofs.YtehdemcfeoiecaaDoor

namespace Go.Proofs.YtehdemcfeoiecaaDoor
open Go.RowKit Go.Firn Go.Shelf Go.Maps Go.WideMaps
attribute [local go_sem] Oper.semAt_some
attribute [local simp] wide_fn

def dgB : ByteArray := ⟨#[48, 49, 50, 51, 52, 53, 54, 55, 56, 57]⟩
theorem dg_has (b : UInt8) : dgB.data.toList.contains b = isDg b := by
  have key : ∀ b : UInt8, dgB.data.toList.contains b = isDg b := by
    intro b
    obtain ⟨n, hn, rfl⟩ : ∃ n : Nat, n < 256 ∧ b = UInt8.ofNat n := ⟨b.toNat, b.toNat_lt, by simp⟩
    have : ∀ n : Fin 256, dgB.data.toList.contains (UInt8.ofNat n.val) = isDg (UInt8.ofNat n.val) := by decide +kernel
    exact this ⟨n, hn⟩
  exact key b
theorem TrimLeft_any (x : Key) (w : World) : Calls Tryd.prog 52 #[.string (bA x), .string ⟨#[48, 49, 50, 51, 52, 53, 54, 55, 56, 57]⟩] w (RetT (bA (x.dropWhile isDg)) w) := by
  have h := Any.strings_TrimLeft_laid Tryd.triml52 (by kernel_rfl) (bA x) dgB w (by decide) (ascii_of_all (by decide))
  refine Calls.mono h ?_
  rintro e w' ⟨rfl, g⟩
  refine ⟨?_, g⟩
  have : Lib.trimLeftS (bA x).data.toList dgB.data.toList = x.dropWhile isDg := by
    unfold Lib.trimLeftS
    rw [bA_list]
    congr 1
    funext b
    exact dg_has b
  rw [this]
  rfl
theorem TrimSuffix_any (x : Key) (hx : x.length ≤ 1000000) (w : World) : Calls Tryd.prog 54 #[.string (bA x), .string (bA (x.dropWhile isDg))] w (RetT (bA (x.takeWhile isDg)) w) := by
  have h := Any.strings_TrimSuffix Tryd.cut54 (bA x) (bA (x.dropWhile isDg)) w (by rw [bA_size]; omega)
  refine Calls.mono h ?_
  rintro e w' ⟨rfl, rfl⟩
  refine ⟨?_, Gr.refl _⟩
  have : Lib.trimSuffix (bA x).data.toList (bA (x.dropWhile isDg)).data.toList = x.takeWhile isDg := by
    rw [bA_list, bA_list]
    unfold Lib.trimSuffix Lib.hasSuffix
    have e : x = x.takeWhile isDg ++ x.dropWhile isDg := List.takeWhile_append_dropWhile.symm
    have hsuf : (x.dropWhile isDg).isSuffixOf x = true := by
      rw [List.isSuffixOf_iff_suffix]
      exact ⟨_, e.symm⟩
    rw [if_pos hsuf]
    have hl : x.length - (x.dropWhile isDg).length = (x.takeWhile isDg).length := by
      have := congrArg List.length e
      rw [List.length_append] at this
      omega
    rw [hl]
    have := List.take_left (l₁ := x.takeWhile isDg) (l₂ := x.dropWhile isDg)
    rwa [List.takeWhile_append_dropWhile] at this
  rw [this]
  rfl
/-- What the two error variables hold. -/
def Errs (w : World) : Prop := ∀ g, g = 0 ∨ g = 1 → ∃ ev, w.cell? ⟨g, 0, none⟩ = some ev ∧ (ev = .nilIface ∨ ∃ te pe, ev = .iface te pe)
theorem Errs.gr {w w' : World} (h : Errs w) (g : Gr w w') : Errs w' := fun k hk => by
  obtain ⟨ev, h1, h2⟩ := h k hk
  exact ⟨ev, g.cell h1, h2⟩
theorem atoi_yes (d : Key) (v : Int) (h : Lib.atoiAll d = .ok v) (hd : d.length ≤ 1000000) (w : World) : Calls Tryd.prog 53 #[.string (bA d)] w fun e w' => e = .returned (.tuple #[.int .i64 v, .nilIface]) ∧ Gr w w' := by
  have hh := Any.strconv_Atoi_ok Tryd.atoi53 (bA d) (by rw [bA_size]; omega) v (by rw [bA_list]; exact h) w
  refine Calls.mono hh ?_
  rintro e w' ⟨rfl, (rfl | ⟨t, rfl⟩)⟩
  · exact ⟨rfl, Gr.refl _⟩
  · exact ⟨rfl, Lib.bytesWorld_below _ _ _⟩
theorem atoi_not (d : Key) (h : ∀ v, Lib.atoiAll d ≠ .ok v) (hd : d.length ≤ 1000000) (w : World) (he : Errs w) : Calls Tryd.prog 53 #[.string (bA d)] w fun e w' => (∃ n N, e = .returned (.tuple #[.int .i64 n, .iface 128 (.pointer (some ⟨N, 0, none⟩))])) ∧ Gr w w' := by
  rcases ha : Lib.atoiAll d with v | _ | _
  · exact absurd ha (h v)
  · obtain ⟨ev, h1, h2⟩ := he 0 (.inl rfl)
    have hh := Any.strconv_Atoi_syntax Tryd.atoi53 (bA d) (by rw [bA_size]; omega) (by rw [bA_list]; exact ha) ev w h1 h2
    refine Calls.mono hh ?_
    rintro e w' ⟨N, rfl, _, _, g⟩
    exact ⟨⟨_, _, rfl⟩, g⟩
  · obtain ⟨ev, h1, h2⟩ := he 1 (.inr rfl)
    have hh := Any.strconv_Atoi_range Tryd.atoi53 (bA d) (by rw [bA_size]; omega) (by rw [bA_list]; exact ha) ev w h1 h2
    refine Calls.mono hh ?_
    rintro e w' ⟨N, rfl, _, _, g⟩
    exact ⟨⟨_, _, rfl⟩, g⟩

/-- append of one product, inside a fence, to a row of one's own. -/
theorem wpListIn_app_prodR {F : Fence} {n : Nat} {ops : Array Oper} {rest : List Oper} {o : Oper} {a : Act} {Q : Exit → Act → World → Prop} (hgd : o.guard = none) (s x : Operand)
    (ho : o.op = .call { callee := .builtin .append, args := #[s, x], argTypes := #[22, 22] })
    {base : Nat} {w : World} (v : Value) (L : SL) (hs : a.eval s = v) (hown : w.ownsRow base 34 2 v L.length (pk L)) (hb : base ≤ w.heap.size)
    (g : Nat) (p : ByteArray) (q : Int) (hx : a.eval x = .slice (some ⟨g, 0, none⟩) 1 1) (hg : w.cell? ⟨g, 0, none⟩ = some (.string p) ∧ w.cell? ⟨g, 1, none⟩ = some (.int .i64 q)) (hk : L.length < 999999)
    (h : ∀ a' c' w', w'.ownsRow base 34 2 (.slice a' (L.length + 1) c') (L.length + 1) (pk (L ++ [(p.data.toList, q)])) → w.grownBy w' v.ownBlock → wpListIn F n Tryd.prog ops Q rest (a.put o.dst (.slice a' (L.length + 1) c')) w') : wpListIn F n Tryd.prog ops Q (o :: rest) a w := by
  obtain ⟨i0, hi, hz0, hz1, hz2⟩ := info_prod (P := Tryd.prog) (e := 34) info34
  refine wpListIn_append_own w hgd s x 22 ho base 34 i0 _ 2 24 Tryd.underlying22 hi hz0 hz1 hz2 rfl (by decide) v L.length (pk L) hs hown ⟨g, 0, none⟩ 1 1 [.string p, .int .i64 q] hx rfl ?_ ?_ (by unfold maxLen; omega) (by omega) hb ?_
  · intro j u hu
    rw [add_flat rfl]
    match j, hu with
    | 0, hu => simp at hu; subst hu; exact hg.1
    | 1, hu => simp at hu; subst hu; exact hg.2
    | j + 2, hu => simp at hu
  · intro u hu
    simp at hu
    rcases hu with rfl | rfl <;> rfl
  · intro v' w' h1 h2 _
    have hv := h1.2
    rcases hv with ⟨_, hz⟩ | ⟨g', cap, cur, rfl, _⟩
    · omega
    · refine h _ _ w' ?_ h2
      rw [pk_append]
      exact h1

/-- The loop's state: the products so far. -/
def Ip (w : World) (b4 base : Nat) (pre : List Key) (W : World) : Prop :=
  ∃ a c, W.cell? ⟨b4, 0, none⟩ = some (.slice a pre.length c) ∧ W.frozen? ⟨b4, 0, none⟩ = false ∧ W.ownsRow base 34 2 (.slice a pre.length c) (pre.map rdO).length (pk (pre.map rdO)) ∧ base ≤ W.heap.size ∧ Gr w W
theorem own_not {w : World} {base e n : Nat} {v : Value} {xs : List Value} (h : w.ownsRow base e 2 v n xs) {b : Nat} (hb : v.ownBlock = some b) : ∃ o : Obj, w.heap[b]? = some o ∧ o.isCells = true ∧ base ≤ b := by
  rcases h.2 with ⟨rfl, _⟩ | ⟨g, cap, cur, rfl, h1, h2, _⟩
  · simp [Value.ownBlock] at hb
  · simp [Value.ownBlock] at hb
    subst hb
    exact ⟨_, h2, rfl, h1⟩
theorem Ip.own {w : World} {b4 base B : Nat} (hB : w.heap.size ≤ B) : OwnFrom B (Ip w b4 base) := by
  rintro pre X Y row ⟨a, c, h1, h2, h3, h4, h5⟩ hg hr
  have hrow : ∀ r, row = some r → ∃ o : Obj, X.heap[r]? = some o ∧ o.isCells = false := fun r e => (hr r e).2
  refine ⟨a, c, cell_kept h1 hg hrow, (frozen_kept h1 hg hrow).trans h2, h3.kept hg ?_, Nat.le_trans h4 hg.size, h5.grown hg fun k e => Nat.le_trans hB (hr k e).1⟩
  cases hv : (Value.slice a pre.length c).ownBlock with
  | none => exact .inl rfl
  | some b =>
    right
    intro e
    obtain ⟨o, ho, hc, _⟩ := own_not h3 hv
    obtain ⟨o', ho', hc'⟩ := hrow b e.symm
    rw [ho] at ho'
    cases ho'
    rw [hc] at hc'
    cases hc'
theorem Ip.wb {w : World} {b4 bs base : Nat} (h1 : bs ≠ b4) (h2 : bs < base) (h3 : w.heap.size ≤ bs) {pre : List Key} {A B : World} (h : Ip w b4 base pre A) (k : WbS bs A B) : Ip w b4 base pre B := by
  obtain ⟨t, u, hu, rfl⟩ := k
  obtain ⟨a, c, k1, k2, k3, k4, k5⟩ := h
  have hg : A.grownBy (A.setCell ⟨bs, 0, none⟩ (.string t)) (some bs) := ((Wr.refl bs A).set 0 _ : Wr bs A _)
  refine ⟨a, c, ?_, by rw [World.frozen?_setCell]; exact k2, k3.kept hg ?_, by simpa using k4, k5.setCell (p := ⟨bs, 0, none⟩) h3 _⟩
  · rw [World.cell?_setCell_other _ _ _ _ (fun e => h1 (congrArg Addr.block e))]; exact k1
  · cases hv : (Value.slice a pre.length c).ownBlock with
    | none => exact .inl rfl
    | some b =>
      right
      intro e
      obtain ⟨_, _, _, hb⟩ := own_not k3 hv
      cases e
      omega

/-- A step that lays new blocks, draws, and writes the box b4. -/
theorem Kb.boxed {bs bp bv b4 : Nat} {W W1 : World} (g : Gr W W1) (h1 : b4 ≠ bs) (h2 : b4 ≠ bp) (h3 : b4 ≠ bv) (v : Value) : Kb (fun k => k = bs ∨ k = bp ∨ k = bv) W (W1.setCell ⟨b4, 0, none⟩ v) := by
  intro p u hp e
  have hne : (⟨b4, 0, none⟩ : Addr) ≠ p := by
    rintro rfl
    rcases hp with h | h | h
    · exact h1 h
    · exact h2 h
    · exact h3 h
  rw [World.cell?_setCell_other _ _ _ _ hne, World.frozen?_setCell]
  exact ⟨g.cell e, Below.frozen g (World.block_lt_of_cell? W _ e)⟩
theorem KeepsOthers.gr {W W' : World} (g : Gr W W') : KeepsOthers W W' := KeepsOthers.of_grownBy (grows' g) (fun _ _ e => by cases e)

theorem rows_gr {w w' : World} {base e n k : Nat} {v : Value} {xs : List Value} (h : w.ownsRow base e n v k xs) (g : Gr w w') : w'.ownsRow base e n v k xs :=
  h.kept (grows' g) (by cases v.ownBlock <;> simp)
theorem rd_own {w : World} {base e : Nat} {v : Value} {L : SL} (h : w.ownsRow base e 2 v L.length (pk L)) : ∃ a c, v = .slice a L.length c ∧ L.length ≤ c ∧ c ≤ maxLen ∧ RdS w a L.length (sx L) (sy L) := by
  have h0 := h
  obtain ⟨hl, hv⟩ := h
  rcases hv with ⟨rfl, hz⟩ | ⟨g, cap, cur, rfl, hb, hg, hnc, hcm, hcs, htake⟩
  · rw [hz]
    exact ⟨none, 0, rfl, Nat.le_refl _, by unfold maxLen; omega, .inl rfl⟩
  · refine ⟨_, _, rfl, hnc, hcm, .inr ⟨g, 0, rfl, fun i hi => ?_⟩⟩
    obtain ⟨p0, p1⟩ := pk_at L i hi
    have c0 := h0.cells (g := g) rfl _ _ p0
    have c1 := h0.cells (g := g) rfl _ _ p1
    rw [add_flat rfl] at c0 c1
    exact ⟨c0, by rw [Nat.add_assoc]; exact c1⟩
/-- What a box holds stands behind a growing row that is another one. -/
theorem grown_box {A B : World} {row : Option Nat} {b : Nat} {v : Value} (hg : A.grownBy B row) (hc : A.cell? ⟨b, 0, none⟩ = some v) (hne : row ≠ some b) : B.cell? ⟨b, 0, none⟩ = some v ∧ B.frozen? ⟨b, 0, none⟩ = A.frozen? ⟨b, 0, none⟩ := by
  have hlt := World.block_lt_of_cell? A _ hc
  have e := hg.block b hlt (fun e => hne e.symm)
  exact ⟨(World.cell?_of_block e).trans hc, World.frozen?_of_block e⟩
/-- One round's end: the row has one product more, and the box holds it. -/
theorem Ip.step {w W w3 w5 : World} {b4 bs bp bv base : Nat} {pre : List Key} {x : Key} {a : Option Addr} {c : Nat} {a' : Option Addr} {c' : Nat} {t : ByteArray} {q : Int}
    (g : Gr W w3) (h4 : b4 < base) (h5 : bs < base) (h6 : bp < base) (h7 : bv < base) (n1 : b4 ≠ bs) (n2 : b4 ≠ bp) (n3 : b4 ≠ bv) (hw : w.heap.size ≤ b4)
    (hI : Ip w b4 base pre W) (hcell : W.cell? ⟨b4, 0, none⟩ = some (.slice a pre.length c)) (hown : W.ownsRow base 34 2 (.slice a pre.length c) (pre.map rdO).length (pk (pre.map rdO)))
    (hO : w5.ownsRow base 34 2 (.slice a' ((pre.map rdO).length + 1) c') ((pre.map rdO).length + 1) (pk (pre.map rdO ++ [(t.data.toList, q)])))
    (hG : w3.grownBy w5 (Value.slice a pre.length c).ownBlock) (hx : rdO x = (t.data.toList, q)) :
    KeepsOthers W (w5.setCell ⟨b4, 0, none⟩ (.slice a' ((pre.map rdO).length + 1) c')) ∧ Kb (fun k => k = bs ∨ k = bp ∨ k = bv) W (w5.setCell ⟨b4, 0, none⟩ (.slice a' ((pre.map rdO).length + 1) c')) ∧ Ip w b4 base (pre ++ [x]) (w5.setCell ⟨b4, 0, none⟩ (.slice a' ((pre.map rdO).length + 1) c')) := by
  have hrow : ∀ k, (Value.slice a pre.length c).ownBlock = some k → base ≤ k ∧ ∃ o : Obj, W.heap[k]? = some o ∧ o.isCells = true := fun k e => by
    obtain ⟨o, ho, hc, hb⟩ := own_not hown e
    exact ⟨hb, o, ho, hc⟩
  obtain ⟨_, _, _, hf, _, hbase, hgw⟩ := hI
  have c3 := g.cell hcell
  have f3 : w3.frozen? ⟨b4, 0, none⟩ = false := (Below.frozen g (World.block_lt_of_cell? W _ hcell)).trans hf
  obtain ⟨c5, f5⟩ := grown_box hG c3 (fun e => by have := (hrow _ e).1; omega)
  have hgg : w5.grownBy (w5.setCell ⟨b4, 0, none⟩ (.slice a' ((pre.map rdO).length + 1) c')) (some b4) := ((Wr.refl b4 w5).set 0 _ : Wr b4 w5 _)
  refine ⟨((KeepsOthers.gr g).trans (KeepsOthers.of_grownBy hG fun j o e ho => ?_)).trans (KeepsOthers.setCell _ _ _), ?_, a', c', ?_, ?_, ?_, ?_, ?_⟩
  · obtain ⟨_, o2, ho2, hc2⟩ := hrow j e
    have := Below.block g j (Array.getElem?_eq_some_iff.1 ho2).1
    rw [this, ho2] at ho
    cases ho
    exact hc2
  · intro p u hp e
    have hpb : p.block < base := by rcases hp with h | h | h <;> omega
    have hne : (⟨b4, 0, none⟩ : Addr) ≠ p := by
      rintro rfl
      rcases hp with h | h | h
      · exact n1 h
      · exact n2 h
      · exact n3 h
    have k3 := g.cell e
    have hb5 := hG.block p.block (World.block_lt_of_cell? w3 _ k3) (fun e => by have := (hrow _ e.symm).1; omega)
    rw [World.cell?_setCell_other _ _ _ _ hne, World.frozen?_setCell]
    exact ⟨(World.cell?_of_block hb5).trans k3, (World.frozen?_of_block hb5).trans (Below.frozen g (World.block_lt_of_cell? W _ e))⟩
  · rw [List.length_append, List.length_singleton]
    have := World.cell?_setCell_same w5 ⟨b4, 0, none⟩ (.slice a' ((pre.map rdO).length + 1) c') c5
    rw [List.length_map] at this ⊢
    exact this
  · rw [World.frozen?_setCell, f5]; exact f3
  · rw [List.map_append, List.length_append, List.map_singleton, List.length_singleton, hx, List.length_append, List.length_singleton]
    have := hO.kept hgg (by
      cases hv : (Value.slice a' ((pre.map rdO).length + 1) c').ownBlock with
      | none => exact .inl rfl
      | some k =>
        right
        intro e
        obtain ⟨_, _, _, hb⟩ := own_not hO hv
        cases e
        omega)
    rw [List.length_map] at this ⊢
    exact this
  · have h1 := g.size
    have h2 := hG.size
    simp
    omega
  · refine Gr.setCell ?_ (p := ⟨b4, 0, none⟩) hw _
    exact (hgw.trans g).grown hG fun k e => by have := (hrow k e).1; omega
end Go.Proofs.YtehdemcfeoiecaaDoor
