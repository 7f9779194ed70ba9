/- Contracts of the library: SplitSeq and its iterator, Atoi; what boxes keep. -/
import Derived.Test.YtdlbgelidcfmiaaDoorTD
import Derived.Test.YtdlbgelidcfmiaaDoorRR
import Derived.Test.YtdlbgelidcfmiaaDoorRhe
import Derived.Shelf.Strings.Search2
import Derived.Shelf.Strings.Search3
namespace Go.Proofs.YtdlbgelidcfmiaaDoor
open Go.RowKit Go.Firn Go.Shelf
theorem wide_fn (f : FuncId) : Fence.wide.fn f = True := rfl
attribute [local go_sem] Oper.semAt_some
attribute [local simp] wide_fn
theorem cell_near {w : World} {b j : Nat} {v : Value} (h : w.cell? ⟨b, j, none⟩ = some v) (u : Value) : (w.setCell ⟨b, j, none⟩ u).cell? ⟨b, j, none⟩ = some u :=
  World.cell?_setCell_same _ _ _ h
/-- Of what was there only the block bb was written. -/
def Wr (bb : Nat) (w w' : World) : Prop := w.grownBy w' (some bb)
theorem Wr.refl (bb : Nat) (w : World) : Wr bb w w := World.grownBy.refl w _
theorem Wr.set {bb : Nat} {a b : World} (h : Wr bb a b) (j : Nat) (u : Value) : Wr bb a (b.setCell ⟨bb, j, none⟩ u) :=
  h.trans ⟨rfl, rfl, rfl, by simp, fun k _ hne => Below.heap_setCell _ _ _ _ (fun e => hne (congrArg some e))⟩
theorem idx_is (c : UInt8) : ∀ R : Key, (Lib.indexByte R c = -1 ∧ c ∉ R) ∨ ∃ o : Nat, Lib.indexByte R c = o ∧ o < R.length ∧ c ∉ R.take o ∧ R[o]? = some c
  | [] => .inl ⟨rfl, by simp⟩
  | b :: l => by
    unfold Lib.indexByte
    by_cases hb : (b == c) = true
    · right
      refine ⟨0, by rw [if_pos hb]; rfl, by simp, by simp, by simp at hb; simp [hb]⟩
    · rw [if_neg hb]
      have hne : b ≠ c := by simpa using hb
      rcases idx_is c l with ⟨h1, h2⟩ | ⟨o, h1, h2, h3, h4⟩
      · left
        rw [h1]
        exact ⟨rfl, by simp [h2, hne.symm]⟩
      · right
        refine ⟨o + 1, ?_, by simp; omega, ?_, by simpa using h4⟩
        · rw [h1]
          have : ((o : Int) == -1) = false := by simp
          rw [this]
          simp
        · rw [List.take_succ_cons]
          simp [h3, hne.symm]
theorem split_len (c : UInt8) : ∀ K : Key, (splitK c K).length ≤ K.length + 1
  | [] => by simp [splitK]
  | b :: r => by
    have := split_len c r
    unfold splitK
    split
    · simp; omega
    · obtain ⟨h, t, e⟩ := splitK_cons c r
      rw [e] at this ⊢
      simp at this ⊢
      omega
theorem split_none {c : UInt8} {R : Key} (h : c ∉ R) : splitK c R = [R] := splitK_no h
theorem split_some {c : UInt8} {R : Key} {o : Nat} (h1 : c ∉ R.take o) (h2 : R[o]? = some c) : splitK c R = R.take o :: splitK c (R.drop (o + 1)) := by
  obtain ⟨hl, e⟩ := List.getElem?_eq_some_iff.1 h2
  have ee : R = R.take o ++ c :: R.drop (o + 1) := by
    conv => lhs; rw [← List.take_append_drop o R]
    rw [List.drop_eq_getElem_cons hl, e]
  conv => lhs; rw [ee]
  exact splitK_app _ h1
theorem ext_key' (R : Key) (f i : Nat) : (bA R).extract f i = bA ((R.drop f).take (i - f)) := by
  refine ByteArray.ext ?_
  rw [ByteArray.data_extract]
  apply Array.toList_inj.1
  rw [Array.toList_extract, List.extract_eq_take_drop]
  rfl
/-- A piece as it is handed to a round. -/
def encK (x : Key) : Array Value := #[.string (bA x)]
/-- The cells of the blocks of K lie as they lay, and may be written as before. -/
def Kb (K : Nat → Prop) (W W' : World) : Prop := ∀ (p : Addr) (v : Value), K p.block → W.cell? p = some v → W'.cell? p = some v ∧ W'.frozen? p = W.frozen? p
theorem Kb.trans {K : Nat → Prop} {A B C : World} (h : Kb K A B) (k : Kb K B C) : Kb K A C := fun p v hp e => by
  obtain ⟨h1, h2⟩ := h p v hp e
  obtain ⟨k1, k2⟩ := k p v hp h1
  exact ⟨k1, k2.trans h2⟩
theorem Kb.putObj {K : Nat → Prop} (W : World) (l : Nat) (o o' : Obj) (h : W.heap[l]? = some o) (hc : o.isCells = false) : Kb K W (W.putObj l o') := fun _ _ _ e =>
  ⟨cell_kept e (grownBy_putObj' W l o') (fun r er => by cases er; exact ⟨o, h, hc⟩), frozen_kept e (grownBy_putObj' W l o') (fun r er => by cases er; exact ⟨o, h, hc⟩)⟩
theorem Kb.gr {K : Nat → Prop} {W W' : World} (g : Gr W W') : Kb K W W' := fun _ _ _ e => ⟨g.cell e, Below.frozen g (World.block_lt_of_cell? W _ e)⟩
/-- The iterator's own write. -/
def WbS (bs : Nat) (A B : World) : Prop := ∃ (t : ByteArray) (u : Value), A.cell? ⟨bs, 0, none⟩ = some u ∧ B = A.setCell ⟨bs, 0, none⟩ (.string t)
theorem WbS.keeps {bs : Nat} {A B : World} (h : WbS bs A B) : ∀ (k : Nat) (o : Obj), A.heap[k]? = some o → o.isCells = false → B.heap[k]? = some o := by
  obtain ⟨t, u, _, rfl⟩ := h
  intro k o hk ho
  exact (KeepsOthers.setCell A ⟨bs, 0, none⟩ (.string t)).same k o hk ho
/-- How long the text of a box is. -/
def boxLen (b : Nat) (w : World) : Nat := match w.cell? ⟨b, 0, none⟩ with | some (.string t) => t.size | _ => 0
theorem boxLen_of {b : Nat} {w : World} {t : ByteArray} (h : w.cell? ⟨b, 0, none⟩ = some (.string t)) : boxLen b w = t.size := by
  unfold boxLen
  rw [h]
theorem grows' {w w' : World} (g : Gr w w') : w.grownBy w' none := ⟨g.os, g.tape, g.output, Gr.size g, fun k hk _ => Below.block g k hk⟩
set_option maxHeartbeats 8000000 in
set_option maxRecDepth 100000 in
theorem splitSeq1_seq (m : Nat) (hm : 1 ≤ m) (bs bp bv : Nat) (h1 : bs ≠ bp) (h2 : bs ≠ bv) (c : UInt8) (s : ByteArray) (w : World) (hs : s.size ≤ 1000000) (hb1 : w.cell? ⟨bp, 0, none⟩ = some (.string ⟨#[c]⟩)) (hb2 : w.cell? ⟨bs, 0, none⟩ = some (.string s)) (hf2 : w.frozen? ⟨bs, 0, none⟩ = false) (hb3 : w.cell? ⟨bv, 0, none⟩ = some (.int .i64 0)) :
    SeqW Fence.wide m Tryd.prog 35 #[.pointer (some ⟨bp, 0, none⟩), .pointer (some ⟨bs, 0, none⟩), .pointer (some ⟨bv, 0, none⟩)] encK (Kb fun k => k = bs ∨ k = bp ∨ k = bv) (WbS bs) (fun x => x.length ≤ 1000000) (fun xs => xs = splitK c s.data.toList) (fun pre => ∃ t, splitK c s.data.toList = pre ++ t) (s.size + 1) w := fun l J Jx W hW hJ hJw hJx hY h0 => by
  have B1 : W.cell? ⟨bp, 0, none⟩ = some (.string ⟨#[c]⟩) := by rw [Below.cell hW (p := ⟨bp, 0, none⟩) (World.block_lt_of_cell? w _ hb1)]; exact hb1
  have B2 : W.cell? ⟨bs, 0, none⟩ = some (.string s) := by rw [Below.cell hW (p := ⟨bs, 0, none⟩) (World.block_lt_of_cell? w _ hb2)]; exact hb2
  have B3 : W.cell? ⟨bv, 0, none⟩ = some (.int .i64 0) := by rw [Below.cell hW (p := ⟨bv, 0, none⟩) (World.block_lt_of_cell? w _ hb3)]; exact hb3
  have F2 : W.frozen? ⟨bs, 0, none⟩ = false := by rw [Below.frozen hW (World.block_lt_of_cell? w _ hb2)]; exact hf2
  have HB := Lib.hid (And.intro B1 (And.intro B2 (And.intro B3 F2)))
  have YY := Lib.hid hY
  have JJ := Lib.hid hJ
  have JW := Lib.hid hJw
  have H0 := Lib.hid h0
  have HNe := Lib.hid (And.intro h1 h2)
  have HS := Lib.hid hs
  have HL := Lib.hid (show (splitK c s.data.toList).length ≤ s.size + 1 by rw [← size_key]; exact split_len c _)
  have C94 := Lib.hid (fun (R : Key) wx => show Calls Tryd.prog 37 #[.string (bA R), .string ⟨#[c]⟩] wx fun e w' => e = .returned (.int .i64 (Lib.indexByte R c)) ∧ wx = w' from Calls.mono (Any.strings_Index_one Tryd.idx37 (bA R) c wx) fun e w' ⟨h1, h2⟩ => ⟨h1, h2.symm⟩)
  clear hb1 hb2 hb3 hf2 hY hJ hJw hJx h0 hW B2 B3 F2 h1 h2 hs
  refine callsIn_of_wp Tryd.func35 rfl trivial ?_ rfl
  simp only [Tryd.ntmps35, List.size_toArray, List.length_cons, List.length_nil, Nat.reduceAdd, Nat.reduceSub, Array.replicate_succ, Array.replicate_zero, List.push_toArray, List.append_toArray, List.nil_append, List.cons_append]
  gi_wp2
  gi_loopw [7] (fun _ wr => ∃ (pre : List Key) (R : Key), Hid (splitK c s.data.toList = pre ++ splitK c R) ∧ Hid (R.length ≤ 1000000) ∧ Hid (J pre wr) ∧ Hid (wr.cell? ⟨bp, 0, none⟩ = some (.string ⟨#[c]⟩) ∧ wr.cell? ⟨bs, 0, none⟩ = some (.string (bA R)) ∧ wr.cell? ⟨bv, 0, none⟩ = some (.int .i64 0) ∧ wr.frozen? ⟨bs, 0, none⟩ = false)) (fun _ wr => boxLen bs wr)
  case atStart => exact ⟨[], s.data.toList, Lib.hid rfl, Lib.hid (by rw [size_key]; exact HS.out), H0, HB⟩
  case round =>
    obtain ⟨pre, R, HP, HR, HJ, HC⟩ := hrel
    obtain ⟨c1, c2, c3, c4⟩ := HC.out
    have C := Lib.hid (C94.out R wr)
    have HPl := Lib.hid (show pre.length < s.size + 1 by
      have := HL.out
      rw [HP.out, List.length_append] at this
      have h2 : 0 < (splitK c R).length := List.length_pos_iff.2 (splitK_ne c R)
      have := HS.out
      omega)
    clear C94 H0
    rcases idx_is c R with ⟨e1, e2⟩ | ⟨o, e1, e2, e3, e4⟩
    · rw [e1] at C
      have HE := Lib.hid (show splitK c s.data.toList = pre ++ [R] by rw [HP.out, split_none e2])
      obtain ⟨fn, tmps, assign, body, hy, hR⟩ := YY.out pre R wr HJ.out HR.out HPl.out
      have hy' : (Instr.yield l #[.string (bA R)]).run Tryd.prog wr = .ok (.round l fn tmps assign body) wr := hy
      have HRR := Lib.hid hR
      clear e1 e2 hy hR
      gi_wp2_with (gi_at_call 37; (with_reducible refine (callsIn_wide.2 C.out).mono ?_); rintro e w6 ⟨rfl, rfl⟩)
      refine HRR.out.mono ?_
      rintro e W' (⟨rfl, hJ', hk'⟩ | ⟨rfl, hX'⟩)
      · have J7 := Lib.hid hJ'
        clear hJ' hk'
        gi_wp2
        go_end0
        exact ⟨⟨_, rfl⟩, .inl ⟨_, HE.out.symm, J7.out⟩⟩
      · have X7 := Lib.hid hX'
        clear hX'
        gi_wp2
        go_end0
        exact ⟨⟨_, rfl⟩, .inr ⟨_, ⟨[], by rw [HE.out, List.append_nil]⟩, X7.out⟩⟩
    · rw [e1] at C
      have HE := Lib.hid (show splitK c s.data.toList = (pre ++ [R.take o]) ++ splitK c (R.drop (o + 1)) by rw [HP.out, split_some e3 e4]; simp)
      obtain ⟨fn, tmps, assign, body, hy, hR⟩ := YY.out pre (R.take o) wr HJ.out (by rw [List.length_take]; have := HR.out; omega) HPl.out
      have hy' : (Instr.yield l #[.string (bA (R.take o))]).run Tryd.prog wr = .ok (.round l fn tmps assign body) wr := hy
      have HRR := Lib.hid hR
      have hx1 : (bA R).extract 0 o = bA (R.take o) := by rw [ext_key']; simp
      have hx2 : (bA R).extract (o + 1) (bA R).size = bA (R.drop (o + 1)) := by
        rw [ext_key', bA_size, List.take_of_length_le (by rw [List.length_drop]; exact Nat.le_refl _)]
      have o0 : ¬ (o : Int) < 0 := by omega
      have o1 : (o : Int) ≤ ((bA R).size : Int) := by rw [bA_size]; omega
      have o2 : (o : Int) + 1 ≤ ((bA R).size : Int) := by rw [bA_size]; omega
      have v1 : IntKind.i64.wrap (o : Int) = (o : Int) := IntWalk.i64_in _ (by have := HR.out; omega)
      have v2 : IntKind.i64.wrap ((o : Int) + 1) = ((o + 1 : Nat) : Int) := by rw [IntWalk.i64_in _ (by have := HR.out; omega)]; omega
      have HO := Lib.hid e2
      clear e1 e2 e3 e4 hy hR
      gi_wp2_with (gi_at_call 37; (with_reducible refine (callsIn_wide.2 C.out).mono ?_); rintro e w6 ⟨rfl, rfl⟩)
      refine HRR.out.mono ?_
      rintro e W' (⟨rfl, hJ', hk'⟩ | ⟨rfl, hX'⟩)
      · have J7 := Lib.hid hJ'
        obtain ⟨k1, _⟩ := hk' ⟨bp, 0, none⟩ _ (.inr (.inl rfl)) c1
        obtain ⟨k2, k4⟩ := hk' ⟨bs, 0, none⟩ _ (.inl rfl) c2
        obtain ⟨k3, _⟩ := hk' ⟨bv, 0, none⟩ _ (.inr (.inr rfl)) c3
        rw [c4] at k4
        have HCn := Lib.hid (show (W'.setCell ⟨bs, 0, none⟩ (.string (bA (R.drop (o + 1))))).cell? ⟨bp, 0, none⟩ = some (.string ⟨#[c]⟩) ∧ (W'.setCell ⟨bs, 0, none⟩ (.string (bA (R.drop (o + 1))))).cell? ⟨bs, 0, none⟩ = some (.string (bA (R.drop (o + 1)))) ∧ (W'.setCell ⟨bs, 0, none⟩ (.string (bA (R.drop (o + 1))))).cell? ⟨bv, 0, none⟩ = some (.int .i64 0) ∧ (W'.setCell ⟨bs, 0, none⟩ (.string (bA (R.drop (o + 1))))).frozen? ⟨bs, 0, none⟩ = false from
          ⟨by rw [World.cell?_setCell_other _ _ _ _ (fun e => HNe.out.1 (congrArg Addr.block e))]; exact k1, cell_near k2 _, by rw [World.cell?_setCell_other _ _ _ _ (fun e => HNe.out.2 (congrArg Addr.block e))]; exact k3, by rw [World.frozen?_setCell]; exact k4⟩)
        have J8 := Lib.hid (JW.out _ W' _ J7.out ⟨bA (R.drop (o + 1)), _, k2, rfl⟩)
        have HM1 := Lib.hid (boxLen_of (b := bs) c2)
        have HM2 := Lib.hid (boxLen_of (b := bs) HCn.out.2.1)
        clear hJ' hk' c1 c2 c3 c4 hy'
        gi_wp2
        go_roundw
        case rel => exact ⟨_, _, HE, Lib.hid (by rw [List.length_drop]; have := HR.out; omega), J8, HCn⟩
        case measure =>
          rw [HM1.out, HM2.out, bA_size, bA_size, List.length_drop]
          have := HO.out
          omega
      · have X7 := Lib.hid hX'
        clear hX'
        gi_wp2
        refine bodyPost_ret (results_none rfl _ _ _) rfl ?_
        exact ⟨⟨_, rfl⟩, .inr ⟨_, ⟨_, HE.out⟩, X7.out⟩⟩
/-- SplitSeq: its iterator, and the boxes of its text, of what parts it, and of 0. -/
theorem SplitSeq_any (s p : ByteArray) (w : World) : Calls Tryd.prog 16 #[.string s, .string p] w fun e w' =>
    e = .returned (.func (.func 35) #[] #[.pointer (some ⟨w.heap.size + 1, 0, none⟩), .pointer (some ⟨w.heap.size, 0, none⟩), .pointer (some ⟨w.heap.size + 2, 0, none⟩)]) ∧
    w' = ((w.alloc (.cells #[.string s] 9)).alloc (.cells #[.string p] 9)).alloc (.cells #[.int .i64 0] 3) := by
  have hmf : ∀ (fn : Fn) (first cap : Array Value) (w : World), (Instr.makeFunc fn first cap).run Tryd.prog w = .ok (.func fn first cap) w := fun _ _ _ _ => rfl
  go_enter Tryd.func16, Tryd.ntmps16
  go_wp2
  go_ret
  exact ⟨rfl, rfl⟩
/-- What the two error variables hold. -/
def Errs (w : World) : Prop := ∀ g, g = 1 ∨ g = 2 → ∃ ev, w.cell? ⟨g, 0, none⟩ = some ev ∧ (ev = .nilIface ∨ ∃ te pe, ev = .iface te pe)
theorem Errs.gr {w w' : World} (h : Errs w) (g : Gr w w') : Errs w' := fun k hk => by
  obtain ⟨ev, h1, h2⟩ := h k hk
  exact ⟨ev, g.cell h1, h2⟩
theorem atoi_yes (d : Key) (v : Int) (h : Lib.atoiAll d = .ok v) (hd : d.length ≤ 1000000) (w : World) : Calls Tryd.prog 18 #[.string (bA d)] w fun e w' => e = .returned (.tuple #[.int .i64 v, .nilIface]) ∧ Gr w w' := by
  have hh := Any.strconv_Atoi_ok Tryd.atoi18 (bA d) (by rw [bA_size]; omega) v (by rw [bA_list]; exact h) w
  refine Calls.mono hh ?_
  rintro e w' ⟨rfl, (rfl | ⟨t, rfl⟩)⟩
  · exact ⟨rfl, Gr.refl _⟩
  · exact ⟨rfl, Lib.bytesWorld_below _ _ _⟩
theorem atoi_not (d : Key) (h : ∀ v, Lib.atoiAll d ≠ .ok v) (hd : d.length ≤ 1000000) (w : World) (he : Errs w) : Calls Tryd.prog 18 #[.string (bA d)] w fun e w' => (∃ n N, e = .returned (.tuple #[.int .i64 n, .iface 71 (.pointer (some ⟨N, 0, none⟩))])) ∧ Gr w w' := by
  rcases ha : Lib.atoiAll d with v | _ | _
  · exact absurd ha (h v)
  · obtain ⟨ev, h1, h2⟩ := he 1 (.inl rfl)
    have hh := Any.strconv_Atoi_syntax Tryd.atoi18 (bA d) (by rw [bA_size]; omega) (by rw [bA_list]; exact ha) ev w h1 h2
    refine Calls.mono hh ?_
    rintro e w' ⟨N, rfl, _, _, g⟩
    exact ⟨⟨_, _, rfl⟩, g⟩
  · obtain ⟨ev, h1, h2⟩ := he 2 (.inr rfl)
    have hh := Any.strconv_Atoi_range Tryd.atoi18 (bA d) (by rw [bA_size]; omega) (by rw [bA_list]; exact ha) ev w h1 h2
    refine Calls.mono hh ?_
    rintro e w' ⟨N, rfl, _, _, g⟩
    exact ⟨⟨_, _, rfl⟩, g⟩
theorem own_not {w : World} {base e n : Nat} {v : Value} {xs : List Value} (h : w.ownsRow base e 2 v n xs) {b : Nat} (hb : v.ownBlock = some b) : ∃ o : Obj, w.heap[b]? = some o ∧ o.isCells = true ∧ base ≤ b := by
  rcases h.2 with ⟨rfl, _⟩ | ⟨g, cap, cur, rfl, h1, h2, _⟩
  · simp [Value.ownBlock] at hb
  · simp [Value.ownBlock] at hb
    subst hb
    exact ⟨_, h2, rfl, h1⟩
/-- A step that lays new blocks, draws, and writes the box b4. -/
theorem Kb.boxed {bs bp bv b4 : Nat} {W W1 : World} (g : Gr W W1) (h1 : b4 ≠ bs) (h2 : b4 ≠ bp) (h3 : b4 ≠ bv) (v : Value) : Kb (fun k => k = bs ∨ k = bp ∨ k = bv) W (W1.setCell ⟨b4, 0, none⟩ v) := by
  intro p u hp e
  have hne : (⟨b4, 0, none⟩ : Addr) ≠ p := by
    rintro rfl
    rcases hp with h | h | h
    · exact h1 h
    · exact h2 h
    · exact h3 h
  rw [World.cell?_setCell_other _ _ _ _ hne, World.frozen?_setCell]
  exact ⟨g.cell e, Below.frozen g (World.block_lt_of_cell? W _ e)⟩
theorem KeepsOthers.gr {W W' : World} (g : Gr W W') : KeepsOthers W W' := KeepsOthers.of_grownBy (grows' g) (fun _ _ e => by cases e)
theorem rows_gr {w w' : World} {base e n k : Nat} {v : Value} {xs : List Value} (h : w.ownsRow base e n v k xs) (g : Gr w w') : w'.ownsRow base e n v k xs :=
  h.kept (grows' g) (by cases v.ownBlock <;> simp)
/-- What a box holds stands behind a growing row that is another one. -/
theorem grown_box {A B : World} {row : Option Nat} {b : Nat} {v : Value} (hg : A.grownBy B row) (hc : A.cell? ⟨b, 0, none⟩ = some v) (hne : row ≠ some b) : B.cell? ⟨b, 0, none⟩ = some v ∧ B.frozen? ⟨b, 0, none⟩ = A.frozen? ⟨b, 0, none⟩ := by
  have hlt := World.block_lt_of_cell? A _ hc
  have e := hg.block b hlt (fun e => hne e.symm)
  exact ⟨(World.cell?_of_block e).trans hc, World.frozen?_of_block e⟩
theorem heap_gr {W W' : World} {D : Nat} {o : Obj} (h : W.heap[D]? = some o) (g : Gr W W') : W'.heap[D]? = some o :=
  (Below.block g D (Array.getElem?_eq_some_iff.1 h).1).trans h
theorem gr_put {w W : World} {D : Nat} (g : Gr w W) (hD : w.heap.size ≤ D) : Gr w (W.putObj D (.deferred none)) :=
  g.grown (grownBy_putObj' W D _) (fun k er => by cases er; omega)
theorem own_put {W : World} {base n D : Nat} {v : Value} {xs : List Value} (h : W.ownsRow base 46 2 v n xs) (hd : W.heap[D]? = some (.deferred (some []))) : (W.putObj D (.deferred none)).ownsRow base 46 2 v n xs :=
  h.kept (grownBy_putObj' W D _) (by
    cases hv : v.ownBlock with
    | none => exact .inl rfl
    | some b =>
      right
      intro e
      obtain ⟨o, ho, hc, _⟩ := own_not h hv
      cases e
      rw [hd] at ho
      cases ho
      simp [Obj.isCells] at hc)

end Go.Proofs.YtdlbgelidcfmiaaDoor
