import Derived.Lib.AppendIntMem
import Derived.Test.YtehdemcfeoiecaaGreatDoorA05
set_option maxHeartbeats 64000000
set_option maxRecDepth 100000
namespace Go.Proofs.YtehdemcfeoiecaaGreatDoor
open Go.RowKit Go.Firn Go.Shelf
def bA (k : Key) : ByteArray := ⟨k.toArray⟩
theorem bA_append (a b : Key) : bA a ++ bA b = bA (a ++ b) := by
 refine ByteArray.ext ?_
 rw [ByteArray.data_append]
 simp [bA]
theorem bA_list (k : Key) : (bA k).data.toList = k := rfl
theorem bA_size (k : Key) : (bA k).size = k.length := by simp [bA, ByteArray.size]
def RetT (s : ByteArray) (w : World) (e : Ending) (w' : World) : Prop := e = .returned (.string s) ∧ Gr w w'
theorem back_one (w : World) (c : UInt8) (cp : Nat) : (convert 176 9 (.slice (some ⟨w.heap.size, 0, none⟩) 1 cp)).run Tryz.prog (w.alloc (.cells #[.int .u8 (c.toNat : Nat)] 5)) = .ok (.string (bA [c])) (w.alloc (.cells #[.int .u8 (c.toNat : Nat)] 5)) :=
 run_convert_bytes_back (w.alloc (.cells #[.int .u8 (c.toNat : Nat)] 5)) 176 9 5 ⟨w.heap.size, 0, none⟩ cp [c] Tryz.underlying176 Tryz.underlying5 Tryz.underlying9 (fun j hj => by
  obtain rfl : j = 0 := by simp at hj; exact hj
  rw [add_flat rfl]
  exact cell_new1 w _ 5)
theorem dec_len {n : Nat} (h : n ≤ 1000000000000000000) : (Lib.decDigits n).length ≤ 19 := by
 rw [Lib.decDigits_length]
 exact nDigits_le (k := 18) (by omega)
theorem decimal_any : ∀ (n : Nat), n ≤ 1000000000000000000 → ∀ w, Calls Tryz.prog 148 #[.int .i64 n] w (RetT (bA (Lib.decDigits n)) w) := by
 intro n
 induction n using Nat.strongRecOn with
 | _ n ih =>
  intro hn w
  have i0 : ¬ (n : Int) < 0 := by omega
  by_cases h10 : n < 10
  ·have i1 : (n : Int) < 10 := by omega
   have w1 : IntKind.i64.wrap (48 + (n : Int)) = ((48 + n : Nat) : Int) := by rw [IntWalk.i64_in _ (by omega)]; omega
   have w2 : IntKind.u8.wrap ((48 + n : Nat) : Int) = ((UInt8.ofNat (48 + n)).toNat : Int) := by rw [dg_of h10, IntKind.wrap_u8]; omega
   have hb := back_one w (UInt8.ofNat (48 + n))
   have HE := Lh (show Lib.decDigits n = [UInt8.ofNat (48 + n)] by rw [Lib.decDigits, dif_pos h10])
   clear h10 hn ih
   generalize UInt8.ofNat (48 + n) = c at *
   obtain ⟨q, hq⟩ : ∃ q : Int, q = ((48 + n : Nat) : Int) := ⟨_, rfl⟩
   rw [← hq] at w1 w2
   clear hq
   go_enter Tryz.func148, Tryz.ntmps148
   go_wp2_with fail
   go_ret
   rw [HE.out]
   exact ⟨rfl, (Gr.refl w).alloc _⟩
  have i1 : ¬ (n : Int) < 10 := by omega
  have e1 : (n : Int).tdiv 10 = ((n / 10 : Nat) : Int) := by rw [Int.tdiv_eq_ediv_of_nonneg (by omega)]; omega
  have e2 : (n : Int).tmod 10 = ((n % 10 : Nat) : Int) := by rw [Int.tmod_eq_emod_of_nonneg (by omega)]; omega
  have w1 : IntKind.i64.wrap ((n / 10 : Nat) : Int) = ((n / 10 : Nat) : Int) := IntWalk.i64_in _ (by omega)
  have C1 := Lh (fun wx => ih (n / 10) (by omega) (by omega) wx)
  have C2 := Lh (fun wx => ih (n % 10) (by omega) (by omega) wx)
  have HE := Lh (show bA (Lib.decDigits (n / 10)) ++ bA (Lib.decDigits (n % 10)) = bA (Lib.decDigits n) by
   rw [bA_append]
   conv => rhs; rw [Lib.decDigits, dif_neg h10]
   congr 2
   rw [Lib.decDigits, dif_pos (Nat.mod_lt _ (by omega))])
  have hs : (bA (Lib.decDigits (n / 10))).size + (bA (Lib.decDigits (n % 10))).size ≤ 9223372036854775807 := by
   rw [bA_size, bA_size]
   have := dec_len (n := n / 10) (by omega)
   have := dec_len (n := n % 10) (by omega)
   omega
  clear ih h10 hn
  generalize n / 10 = p at *
  generalize n % 10 = r at *
  generalize bA (Lib.decDigits p) = tp at *
  generalize bA (Lib.decDigits r) = tr at *
  generalize bA (Lib.decDigits n) = tn at *
  go_enter Tryz.func148, Tryz.ntmps148
  go_wp2_with (first
   | (go_at_call 148; (with_reducible refine (C1.out _).mono ?_); rintro e wa ⟨rfl, g1⟩; have G1 := Lh g1; clear g1 C1)
   | (go_at_call 148; (with_reducible refine (C2.out _).mono ?_); rintro e wb ⟨rfl, g2⟩; have G2 := Lh (G1.out.trans g2); clear g2 C2))
  go_ret
  exact ⟨congrArg _ (congrArg _ HE.out), G2.out⟩
def OwnW (w0 w : World) (v : Value) (L : List ByteArray) : Prop := w.ownsRow w0.heap.size 9 1 v L.length (L.map Value.string) ∧ Gr w0 w
theorem OwnW.nil {w0 w : World} (g : Gr w0 w) : OwnW w0 w (.slice none 0 0) [] := ⟨World.ownsRow_nil w _ _ _, g⟩
theorem OwnW.gr {w0 w w' : World} {v : Value} {L : List ByteArray} (h : OwnW w0 w v L) (g : Gr w w') : OwnW w0 w' v L :=
 ⟨h.1.kept (row := none) ⟨g.os, g.tape, g.output, Gr.size g, fun k hk _ => Below.block g k hk⟩ (by cases v.ownBlock <;> simp), h.2.trans g⟩
theorem OwnW.row {w0 w : World} {v : Value} {L : List ByteArray} (h : OwnW w0 w v L) : (v = .slice none 0 0 ∧ L = []) ∨ ∃ g c, v = .slice (some ⟨g, 0, none⟩) L.length c ∧ L.length ≤ c ∧ c ≤ maxLen ∧ (∀ i x, L[i]? = some x → w.cell? ⟨g, i, none⟩ = some (.string x) ∧ w.frozen? ⟨g, i, none⟩ = false) ∧ w0.heap.size ≤ g ∧ g < w.heap.size := by
 have h0 := h.1
 obtain ⟨hl, hv⟩ := h.1
 rcases hv with ⟨rfl, hz⟩ | ⟨g, cap, cur, rfl, hb, hg, hnc, hcm, hcs, htake⟩
 ·exact .inl ⟨rfl, List.length_eq_zero_iff.1 hz⟩
 refine .inr ⟨_, _, rfl, hnc, hcm, fun i x hx => ?_, (h0.lt g rfl).1, (h0.lt g rfl).2⟩
 have c0 := h0.cells (g := g) rfl i (.string x) (by simp [hx])
 rw [add_flat rfl] at c0
 simp only [Nat.zero_add] at c0
 exact ⟨c0, h0.frozenAt _⟩
theorem info9 : ∃ i : TypeInfo, Tryz.prog.info? 9 = some i ∧ i.zero = some (.string ⟨#[]⟩) ∧ i.size = 1 ∧ i.bytes = 16 := by
 have h : (Tryz.prog.info? 9).map (fun i => (i.zero, i.size, i.bytes)) = some (some (.string ⟨#[]⟩), 1, 16) := by kernel_rfl
 cases hi : Tryz.prog.info? 9 with
 | none => rw [hi] at h; cases h
 | some i => rw [hi] at h; simp at h; exact ⟨i, rfl, h.1, h.2.1, h.2.2⟩
theorem wpList_app_str {ops : Array Oper} {rest : List Oper} {o : Oper} {a : Act} {Q : Exit → Act → World → Prop} (hgd : o.guard = none) (s x : Operand)
  (ho : o.op = .call { callee := .builtin .append, args := #[s, x], argTypes := #[155, 155] })
  {w0 w : World} (v : Value) (L : List ByteArray) (hs : a.eval s = v) (hown : OwnW w0 w v L)
  (b : Nat) (t : ByteArray) (hx : a.eval x = .slice (some ⟨b, 0, none⟩) 1 1) (hc : w.cell? ⟨b, 0, none⟩ = some (.string t)) (hk : L.length < 999999)
  (h : ∀ v' w', OwnW w0 w' v' (L ++ [t]) → wpList Tryz.prog ops Q rest (a.put o.dst v') w') : wpList Tryz.prog ops Q (o :: rest) a w := by
 obtain ⟨i0, hi, hz0, hz1, hz2⟩ := info9
 refine wpList_append_own w hgd s x 155 ho w0.heap.size 9 i0 _ 1 16 Tryz.underlying155 hi hz0 hz1 hz2 rfl (by decide) v L.length (L.map Value.string) hs hown.1 ⟨b, 0, none⟩ 1 1 [.string t] hx rfl ?_ ?_ (by unfold maxLen; omega) (by omega) hown.2.size ?_
 ·intro j u hu
  cases j with
  | zero => simp at hu; subst hu; exact hc
  | succ j => simp at hu
 ·intro u hu
  simp at hu
  subst hu
  rfl
 intro v' w' h1 h2 _
 refine h v' w' ⟨?_, hown.2.grown h2 fun k hk => (hown.1.lt k hk).1⟩
 rw [List.length_append, List.map_append]
 exact h1
def Pow10 (w : World) : Prop := Lib.TabIs Tryz.prog w "internal/strconv.uint64pow10" .u64 Lib.pow10Tab
theorem Pow10.gr {w w' : World} (h : Pow10 w) (g : Gr w w') : Pow10 w' := Lib.tabBelow_of_tabIs h w' g
theorem ext_key (s : ByteArray) (f i : Nat) : (s.extract f i).data.toList = (s.data.toList.drop f).take (i - f) := by
 rw [ByteArray.data_extract, Array.toList_extract, List.extract_eq_take_drop]
theorem ext_bA (s : ByteArray) (f i : Nat) : s.extract f i = bA ((s.data.toList.drop f).take (i - f)) := by
 rw [← ext_key]
 rfl
theorem OwnW.set {w0 w : World} {g c i : Nat} {L : List ByteArray} (h : OwnW w0 w (.slice (some ⟨g, 0, none⟩) L.length c) L) (t : ByteArray) :
  OwnW w0 (w.setCell ⟨g, i, none⟩ (.string t)) (.slice (some ⟨g, 0, none⟩) L.length c) (L.set i t) := by
 obtain ⟨h1, h2⟩ := h.1.stored i (.string t)
 refine ⟨?_, h.2.grown h2 fun b hb => ?_⟩
 ·rw [← List.map_set] at h1
  rw [List.length_set]
  exact h1
 cases hb
 exact (h.1.lt g rfl).1
theorem row_last {D : List ByteArray} (e t : ByteArray) : (D ++ [e]).set D.length t = D ++ [t] := by
 rw [List.set_append_right _ _ (Nat.le_refl _), Nat.sub_self]
 rfl
def RetW (L : List ByteArray) (w : World) (e : Ending) (w' : World) : Prop := ∃ g c, e = .returned (.slice (some ⟨g, 0, none⟩) L.length c) ∧ (∀ i x, L[i]? = some x → w'.cell? ⟨g, i, none⟩ = some (.string x)) ∧ Gr w w'
theorem piece_more {K : Key} {f i : Nat} {c : UInt8} (hf : f ≤ i) (h : c ∉ (K.drop f).take (i - f)) (hi : i < K.length) (hc : K[i]? ≠ some c) : c ∉ (K.drop f).take (i + 1 - f) := by
 rw [show i + 1 - f = (i - f) + 1 by omega, List.take_add_one, List.mem_append]
 rintro (h1 | h1)
 ·exact h h1
 rw [List.getElem?_drop, show f + (i - f) = i by omega, List.getElem?_eq_getElem hi] at h1
 simp at h1
 exact hc (by rw [List.getElem?_eq_getElem hi, h1])
theorem piece_end {K : Key} {f i : Nat} {c : UInt8} (hf : f ≤ i) (h : c ∉ (K.drop f).take (i - f)) (hc : K[i]? = some c) : splitK c (K.drop f) = (K.drop f).take (i - f) :: splitK c (K.drop (i + 1)) := by
 have e : K.drop f = (K.drop f).take (i - f) ++ c :: K.drop (i + 1) := by
  conv => lhs; rw [← List.take_append_drop (i - f) (K.drop f)]
  congr 1
  rw [List.drop_drop, show f + (i - f) = i by omega]
  obtain ⟨hl, e⟩ := List.getElem?_eq_some_iff.1 hc
  rw [List.drop_eq_getElem_cons hl, e]
 conv => lhs; rw [e]
 exact splitK_app _ h
theorem piece_last {K : Key} {f : Nat} {c : UInt8} (h : c ∉ (K.drop f).take (K.length - f)) : splitK c (K.drop f) = [(K.drop f).take (K.length - f)] := by
 have e : (K.drop f).take (K.length - f) = K.drop f := List.take_of_length_le (by rw [List.length_drop]; exact Nat.le_refl _)
 rw [e] at h ⊢
 exact splitK_no h
theorem bt_at {s : ByteArray} {i : Nat} (h : i < s.size) : s.data.toList[i]? = some (s[i]'h) := by
 rw [List.getElem?_eq_getElem (by rw [size_key]; exact h)]
 rfl
theorem cell_news {w : World} {b : Nat} {v : Value} {e : TypeId} (h : w.heap.size = b) : (w.alloc (.cells #[v] e)).cell? ⟨b, 0, none⟩ = some v := by
 subst h
 exact cell_new1 w v e
theorem split_any (s : ByteArray) (c : UInt8) (most : Nat) (w : World) (hs : s.size ≤ 1000000) (hm : most ≤ 1000) :
  Calls Tryz.prog 114 #[.string s, .int .u8 (c.toNat : Nat), .int .i64 most] w (RetW (((splitK c s.data.toList).take (most + 1)).map bA) w) := by
 have HZ := Lh (And.intro hs hm)
 have HN := Lh (size_key s)
 clear hs hm
 go_enter Tryz.func114, Tryz.ntmps114
 have hst : OwnW w (w.alloc (.cells #[.string ⟨#[]⟩] 9)) (.slice (some ⟨w.heap.size, 0, none⟩) 1 1) [⟨#[]⟩] :=
  ⟨World.ownsRow_lit w #[.string ⟨#[]⟩] 1 (Nat.le_refl _) (by unfold maxLen; omega) rfl, (Gr.refl w).alloc _⟩
 have HS := Lh hst
 clear hst
 go_wp2_with fail
 go_loopw [7, 8, 9] (fun s7 s8 s9 wr => (∃ (i f : Nat) (D : List Key), s9 = .int .i64 i ∧ s8 = .int .i64 f ∧ Hid (i ≤ s.size ∧ f ≤ i ∧ D.length ≤ most) ∧ Hid (c ∉ (s.data.toList.drop f).take (i - f)) ∧ Hid (splitK c s.data.toList = D ++ splitK c (s.data.toList.drop f)) ∧ Hid (OwnW w wr s7 (D.map bA ++ [⟨#[]⟩]))) ∨ (s9 = .int .i64 ((s.size + 1 : Nat) : Int) ∧ Hid ((splitK c s.data.toList).length ≤ most + 1) ∧ Hid (OwnW w wr s7 ((splitK c s.data.toList).map bA)))) (fun _ _ s9 _ => s.size + 1 - (intOf s9).toNat)
 case atStart => exact .inl ⟨0, 0, [], rfl, rfl, Lh ⟨Nat.zero_le _, Nat.le_refl _, Nat.zero_le _⟩, Lh (by simp), Lh (by simp), HS⟩
 case round =>
  rcases hrel with ⟨i, f, D, rfl, rfl, HI, HC, HP, HO⟩ | ⟨rfl, HL, HO⟩
  ·have hlen : (D.map bA ++ [(⟨#[]⟩ : ByteArray)]).length = D.length + 1 := by simp
   rcases HO.out.row with ⟨_, h0⟩ | ⟨g, cp, rfl, h1, h2, h3, h4, h5⟩
   ·simp at h0
   obtain ⟨k0, k1⟩ := h3 D.length ⟨#[]⟩ (by simp)
   have HCp := Lh (show D.length + 1 ≤ cp by rw [← hlen]; exact h1)
   have HOs := Lh (fun t => show OwnW w (wr.setCell ⟨g, D.length, none⟩ (.string t)) (.slice (some ⟨g, 0, none⟩) (D.length + 1) cp) (D.map bA ++ [t]) by
    have := HO.out.set (i := D.length) t
    rw [show (D.map bA ++ [(⟨#[]⟩ : ByteArray)]).set D.length t = D.map bA ++ [t] by have := row_last (D := D.map bA) ⟨#[]⟩ t; rwa [List.length_map] at this, hlen] at this
    exact this)
   rw [hlen]
   obtain ⟨N, hN⟩ : ∃ N, D.length + 1 = N := ⟨_, rfl⟩
   rw [hN] at HOs HCp ⊢
   have l2 : IntKind.i64.wrap ((N : Int) - 1) = (D.length : Int) := by rw [IntWalk.i64_in _ (by have := HI.out; have := HZ.out; omega)]; omega
   have l3 : (D.length : Int) < (N : Int) := by omega
   have HNN := Lh hN
   have HO2 := Lh (show OwnW w wr (.slice (some ⟨g, 0, none⟩) N cp) (D.map bA ++ [(⟨#[]⟩ : ByteArray)]) by have := HO.out; rw [hlen, hN] at this; exact this)
   have f1 : (f : Int) ≤ (i : Int) := by have := HI.out; omega
   have f2 : (i : Int) ≤ (s.size : Int) := by have := HI.out; omega
   have w2 : IntKind.i64.wrap ((i : Int) + 1) = ((i + 1 : Nat) : Int) := by rw [IntWalk.i64_in _ (by have := HI.out; have := HZ.out; omega)]; omega
   have HX := Lh (ext_bA s f i)
   clear h1 h2 h3 h4 h5 hlen
   by_cases hlt : i < s.size
   ·have e0 : ((i : Int) == (s.size : Int)) = false := by simp; omega
    have e1 : (i : Int) < (s.size : Int) := by omega
    have HB := Lh (bt_at hlt)
    by_cases hcb : s.data.toList[i]? = some c
    ·have HEnd := Lh (piece_end HI.out.2.1 HC.out hcb)
     have hb : (s[i]'hlt).toNat = c.toNat := by
      have := HB.out
      rw [hcb] at this
      rw [Option.some.inj this]
     have HQ := Lh (show splitK c s.data.toList = (D ++ [(s.data.toList.drop f).take (i - f)]) ++ splitK c (s.data.toList.drop (i + 1)) by rw [HP.out, HEnd.out]; simp)
     have HM := Lh (show (D.map bA ++ [s.extract f i]) = (D ++ [(s.data.toList.drop f).take (i - f)]).map bA by rw [HX.out]; simp)
     clear hcb HEnd HC HP
     generalize (s.data.toList.drop f).take (i - f) = xk at *
     by_cases hmo : D.length = most
     ·have m1 : (most : Int) < (N : Int) := by omega
      have HT := Lh (show ((splitK c s.data.toList).take (most + 1)).map bA = D.map bA ++ [s.extract f i] by
       rw [HQ.out, HM.out, List.take_append_of_le_length (by simp; omega), List.take_of_length_le (by simp; omega)])
      have HOx := Lh (HOs.out (s.extract f i))
      have HR := Lh (show RetW (((splitK c s.data.toList).take (most + 1)).map bA) w (.returned (.slice (some ⟨g, 0, none⟩) N cp)) (wr.setCell ⟨g, D.length, none⟩ (.string (s.extract f i))) by
       rw [HT.out]
       rcases HOx.out.row with ⟨_, h0⟩ | ⟨g', cp', e, _, _, h3, _, _⟩
       ·simp at h0
       cases e
       exact ⟨g, cp, by rw [List.length_append, List.length_map, List.length_singleton, HNN.out], fun i x hx => (h3 i x hx).1, HOx.out.2⟩)
      clear hN hmo HOs HT HOx HQ HM HI
      go_wp2_with fail
      go_ret
      exact HR.out
     have m1 : ¬ (most : Int) < (N : Int) := by have := HI.out; omega
     have HOx := Lh (show OwnW w (wr.setCell ⟨g, D.length, none⟩ (.string (s.extract f i))) (.slice (some ⟨g, 0, none⟩) N cp) ((D ++ [xk]).map bA) by rw [← HM.out]; exact HOs.out (s.extract f i))
     have HDl := Lh (show (D ++ [xk]).length ≤ most ∧ i + 1 ≤ s.size by simp; have := HI.out; omega)
     have HKl := Lh (show ((D ++ [xk]).map bA).length < 999999 by simp; have := HI.out; have := HZ.out; omega)
     have HNC := Lh (show c ∉ (s.data.toList.drop (i + 1)).take (i + 1 - (i + 1)) by simp)
     have HE2 := Lh hlt
     clear hN hmo HOs HM HI
     go_wp2_with (at_builtin; refine wpList_app_str rfl _ _ rfl _ _ rfl (HOx.out.gr ((Gr.refl _).alloc _)) wr.heap.size _ rfl (cell_news (by simp)) HKl.out ?_; intro v1 w4 hown; have H1 := Lh hown; clear hown)
     go_roundw
     case rel => exact .inl ⟨i + 1, i + 1, D ++ [xk], by go_num, by go_num, Lh ⟨HDl.out.2, Nat.le_refl _, HDl.out.1⟩, HNC, HQ, H1⟩
     case measure => have := HE2.out; simp [intOf]; omega
    have HNC := Lh (piece_more HI.out.2.1 HC.out (by rw [HN.out]; exact hlt) hcb)
    have hb : ((((s[i]'hlt).toNat : Nat) : Int) == ((c.toNat : Nat) : Int)) = false := by
     have := HB.out
     rw [this] at hcb
     have h2 : (s[i]'hlt).toNat ≠ c.toNat := fun e => hcb (by rw [UInt8.toNat_inj.1 e])
     simp
     omega
    have HE2 := Lh hlt
    have HI2 := Lh (show i + 1 ≤ s.size ∧ f ≤ i + 1 ∧ D.length ≤ most by have := HI.out; omega)
    clear hcb HOs hN
    go_wp2_with fail
    go_roundw
    case rel => exact .inl ⟨i + 1, f, D, by go_num, rfl, HI2, HNC, HP, HO2⟩
    case measure => have := HE2.out; simp [intOf]; omega
   obtain rfl : i = s.size := by have := HI.out; omega
   have e1 : ¬ (s.size : Int) < (s.size : Int) := by omega
   have HEnd := Lh (piece_last (by rw [HN.out]; exact HC.out))
   have HQ := Lh (show splitK c s.data.toList = D ++ [(s.data.toList.drop f).take (s.size - f)] by rw [HP.out, HEnd.out, HN.out])
   have HM := Lh (show (D.map bA ++ [s.extract f s.size]) = (splitK c s.data.toList).map bA by rw [HX.out, HQ.out]; simp)
   have HOx := Lh (show OwnW w (wr.setCell ⟨g, D.length, none⟩ (.string (s.extract f s.size))) (.slice (some ⟨g, 0, none⟩) N cp) ((splitK c s.data.toList).map bA) by rw [← HM.out]; exact HOs.out (s.extract f s.size))
   have HL2 := Lh (show (splitK c s.data.toList).length ≤ most + 1 by rw [HQ.out]; simp; have := HI.out; omega)
   clear hN hlt HOs HEnd HQ HM
   go_wp2_with fail
   go_roundw
   case rel => exact .inr ⟨by go_num, HL2, HOx⟩
   case measure => simp [intOf]
  have e1 : ¬ ((s.size + 1 : Nat) : Int) ≤ (s.size : Int) := by omega
  rcases HO.out.row with ⟨_, h0⟩ | ⟨g, cp, rfl, h1, h2, h3, h4, h5⟩
  ·have := splitK_ne c s.data.toList
   simp at h0
   exact absurd h0 this
  have HR := Lh (show RetW (((splitK c s.data.toList).take (most + 1)).map bA) w (.returned (.slice (some ⟨g, 0, none⟩) ((splitK c s.data.toList).map bA).length cp)) wr by
   rw [List.take_of_length_le HL.out]
   exact ⟨g, cp, rfl, fun i x hx => (h3 i x hx).1, HO.out.2⟩)
  clear h1 h2 h3 h4 h5 HO HL
  obtain ⟨q, hq⟩ : ∃ q : Int, q = ((s.size + 1 : Nat) : Int) := ⟨_, rfl⟩
  rw [← hq] at e1 ⊢
  clear hq
  generalize ((splitK c s.data.toList).map bA).length = N at *
  go_wp2_with fail
  go_ret
  have := HR.out
  rw [List.map_take] at this
  exact this
end Go.Proofs.YtehdemcfeoiecaaGreatDoor
namespace Go.Proofs.YtehdemcfeoiecaaGreatDoor
open Go.RowKit Go.Firn Go.Shelf Go.Maps Go.WideMaps
attribute [local go_sem] Oper.semAt_some
theorem wide_fn (f : FuncId) : Fence.wide.fn f = True := rfl
attribute [local simp] wide_fn
theorem idx_is (c : UInt8) : ∀ R : Key, (Lib.indexByte R c = -1 ∧ c ∉ R) ∨ ∃ o : Nat, Lib.indexByte R c = o ∧ o < R.length ∧ c ∉ R.take o ∧ R[o]? = some c
 | [] => .inl ⟨rfl, by simp⟩
 | b :: l => by
  unfold Lib.indexByte
  by_cases hb : (b == c) = true
  ·right
   refine ⟨0, by rw [if_pos hb]; rfl, by simp, by simp, by simp at hb; simp [hb]⟩
  rw [if_neg hb]
  have hne : b ≠ c := by simpa using hb
  rcases idx_is c l with ⟨h1, h2⟩ | ⟨o, h1, h2, h3, h4⟩
  ·left
   rw [h1]
   exact ⟨rfl, by simp [h2, hne.symm]⟩
  right
  refine ⟨o + 1, ?_, by simp; omega, ?_, by simpa using h4⟩
  ·rw [h1]
   have : ((o : Int) == -1) = false := by simp
   rw [this]
   simp
  rw [List.take_succ_cons]
  simp [h3, hne.symm]
theorem split_len (c : UInt8) : ∀ K : Key, (splitK c K).length ≤ K.length + 1
 | [] => by simp [splitK]
 | b :: r => by
  have := split_len c r
  unfold splitK
  split
  ·simp; omega
  obtain ⟨h, t, e⟩ := splitK_cons c r
  rw [e] at this ⊢
  simp at this ⊢
  omega
theorem split_none {c : UInt8} {R : Key} (h : c ∉ R) : splitK c R = [R] := splitK_no h
theorem split_some {c : UInt8} {R : Key} {o : Nat} (h1 : c ∉ R.take o) (h2 : R[o]? = some c) : splitK c R = R.take o :: splitK c (R.drop (o + 1)) := by
 obtain ⟨hl, e⟩ := List.getElem?_eq_some_iff.1 h2
 have ee : R = R.take o ++ c :: R.drop (o + 1) := by
  conv => lhs; rw [← List.take_append_drop o R]
  rw [List.drop_eq_getElem_cons hl, e]
 conv => lhs; rw [ee]
 exact splitK_app _ h1
theorem ext_key' (R : Key) (f i : Nat) : (bA R).extract f i = bA ((R.drop f).take (i - f)) := by
 refine ByteArray.ext ?_
 rw [ByteArray.data_extract]
 apply Array.toList_inj.1
 rw [Array.toList_extract, List.extract_eq_take_drop]
 rfl
def encK (x : Key) : Array Value := #[.string (bA x)]
def Kb (K : Nat → Prop) (W W' : World) : Prop := ∀ (p : Addr) (v : Value), K p.block → W.cell? p = some v → W'.cell? p = some v ∧ W'.frozen? p = W.frozen? p
theorem Kb.trans {K : Nat → Prop} {A B C : World} (h : Kb K A B) (k : Kb K B C) : Kb K A C := fun p v hp e => by
 obtain ⟨h1, h2⟩ := h p v hp e
 obtain ⟨k1, k2⟩ := k p v hp h1
 exact ⟨k1, k2.trans h2⟩
theorem Kb.putObj {K : Nat → Prop} (W : World) (l : Nat) (o o' : Obj) (h : W.heap[l]? = some o) (hc : o.isCells = false) : Kb K W (W.putObj l o') := fun _ _ _ e =>
 ⟨cell_kept e (grownBy_putObj' W l o') (fun r er => by cases er; exact ⟨o, h, hc⟩), frozen_kept e (grownBy_putObj' W l o') (fun r er => by cases er; exact ⟨o, h, hc⟩)⟩
theorem Kb.gr {K : Nat → Prop} {W W' : World} (g : Gr W W') : Kb K W W' := fun _ _ _ e => ⟨g.cell e, Below.frozen g (World.block_lt_of_cell? W _ e)⟩
def WbS (bs : Nat) (A B : World) : Prop := ∃ (t : ByteArray) (u : Value), A.cell? ⟨bs, 0, none⟩ = some u ∧ B = A.setCell ⟨bs, 0, none⟩ (.string t)
theorem WbS.keeps {bs : Nat} {A B : World} (h : WbS bs A B) : ∀ (k : Nat) (o : Obj), A.heap[k]? = some o → o.isCells = false → B.heap[k]? = some o := by
 obtain ⟨t, u, _, rfl⟩ := h
 intro k o hk ho
 exact (KeepsOthers.setCell A ⟨bs, 0, none⟩ (.string t)).same k o hk ho
def boxLen (b : Nat) (w : World) : Nat := match w.cell? ⟨b, 0, none⟩ with | some (.string t) => t.size | _ => 0
theorem boxLen_of {b : Nat} {w : World} {t : ByteArray} (h : w.cell? ⟨b, 0, none⟩ = some (.string t)) : boxLen b w = t.size := by
 unfold boxLen
 rw [h]
theorem grows' {w w' : World} (g : Gr w w') : w.grownBy w' none := ⟨g.os, g.tape, g.output, Gr.size g, fun k hk _ => Below.block g k hk⟩
theorem splitSeq1_seq (m : Nat) (hm : 1 ≤ m) (bs bp bv : Nat) (h1 : bs ≠ bp) (h2 : bs ≠ bv) (c : UInt8) (s : ByteArray) (w : World) (hs : s.size ≤ 1000000) (hb1 : w.cell? ⟨bp, 0, none⟩ = some (.string ⟨#[c]⟩)) (hb2 : w.cell? ⟨bs, 0, none⟩ = some (.string s)) (hf2 : w.frozen? ⟨bs, 0, none⟩ = false) (hb3 : w.cell? ⟨bv, 0, none⟩ = some (.int .i64 0)) :
  SeqW Fence.wide m Tryz.prog 151 #[.pointer (some ⟨bp, 0, none⟩), .pointer (some ⟨bs, 0, none⟩), .pointer (some ⟨bv, 0, none⟩)] encK (Kb fun k => k = bs ∨ k = bp ∨ k = bv) (WbS bs) (fun x => x.length ≤ 1000000) (fun xs => xs = splitK c s.data.toList) (fun pre => ∃ t, splitK c s.data.toList = pre ++ t) (s.size + 1) w := fun l J Jx W hW hJ hJw hJx hY h0 => by
 have B1 : W.cell? ⟨bp, 0, none⟩ = some (.string ⟨#[c]⟩) := by rw [Below.cell hW (p := ⟨bp, 0, none⟩) (World.block_lt_of_cell? w _ hb1)]; exact hb1
 have B2 : W.cell? ⟨bs, 0, none⟩ = some (.string s) := by rw [Below.cell hW (p := ⟨bs, 0, none⟩) (World.block_lt_of_cell? w _ hb2)]; exact hb2
 have B3 : W.cell? ⟨bv, 0, none⟩ = some (.int .i64 0) := by rw [Below.cell hW (p := ⟨bv, 0, none⟩) (World.block_lt_of_cell? w _ hb3)]; exact hb3
 have F2 : W.frozen? ⟨bs, 0, none⟩ = false := by rw [Below.frozen hW (World.block_lt_of_cell? w _ hb2)]; exact hf2
 have HB := Lh (And.intro B1 (And.intro B2 (And.intro B3 F2)))
 have YY := Lh hY
 have JJ := Lh hJ
 have JW := Lh hJw
 have H0 := Lh h0
 have HNe := Lh (And.intro h1 h2)
 have HS := Lh hs
 have HL := Lh (show (splitK c s.data.toList).length ≤ s.size + 1 by rw [← size_key]; exact split_len c _)
 have C94 := Lh (fun (R : Key) wx => show Calls Tryz.prog 126 #[.string (bA R), .string ⟨#[c]⟩] wx fun e w' => e = .returned (.int .i64 (Lib.indexByte R c)) ∧ wx = w' from Calls.mono (Any.strings_Index_one Tryz.idx126 (bA R) c wx) fun e w' ⟨h1, h2⟩ => ⟨h1, h2.symm⟩)
 clear hb1 hb2 hb3 hf2 hY hJ hJw hJx h0 hW B2 B3 F2 h1 h2 hs
 refine callsIn_of_wp Tryz.func151 rfl trivial ?_ rfl
 simp only [Tryz.ntmps151, List.size_toArray, List.length_cons, List.length_nil, Nat.reduceAdd, Nat.reduceSub, Array.replicate_succ, Array.replicate_zero, List.push_toArray, List.append_toArray, List.nil_append, List.cons_append]
 gi_wp2
 gi_loopw [7] (fun _ wr => ∃ (pre : List Key) (R : Key), Hid (splitK c s.data.toList = pre ++ splitK c R) ∧ Hid (R.length ≤ 1000000) ∧ Hid (J pre wr) ∧ Hid (wr.cell? ⟨bp, 0, none⟩ = some (.string ⟨#[c]⟩) ∧ wr.cell? ⟨bs, 0, none⟩ = some (.string (bA R)) ∧ wr.cell? ⟨bv, 0, none⟩ = some (.int .i64 0) ∧ wr.frozen? ⟨bs, 0, none⟩ = false)) (fun _ wr => boxLen bs wr)
 case atStart => exact ⟨[], s.data.toList, Lh rfl, Lh (by rw [size_key]; exact HS.out), H0, HB⟩
 case round =>
  obtain ⟨pre, R, HP, HR, HJ, HC⟩ := hrel
  obtain ⟨c1, c2, c3, c4⟩ := HC.out
  have C := Lh (C94.out R wr)
  have HPl := Lh (show pre.length < s.size + 1 by
   have := HL.out
   rw [HP.out, List.length_append] at this
   have h2 : 0 < (splitK c R).length := List.length_pos_iff.2 (splitK_ne c R)
   have := HS.out
   omega)
  clear C94 H0
  rcases idx_is c R with ⟨e1, e2⟩ | ⟨o, e1, e2, e3, e4⟩
  ·rw [e1] at C
   have HE := Lh (show splitK c s.data.toList = pre ++ [R] by rw [HP.out, split_none e2])
   obtain ⟨fn, tmps, assign, body, hy, hR⟩ := YY.out pre R wr HJ.out HR.out HPl.out
   have hy' : (Instr.yield l #[.string (bA R)]).run Tryz.prog wr = .ok (.round l fn tmps assign body) wr := hy
   have HRR := Lh hR
   clear e1 e2 hy hR
   gi_wp2_with (gi_at_call 126; (with_reducible refine (callsIn_wide.2 C.out).mono ?_); rintro e w6 ⟨rfl, rfl⟩)
   refine HRR.out.mono ?_
   rintro e W' (⟨rfl, hJ', hk'⟩ | ⟨rfl, hX'⟩)
   ·have J7 := Lh hJ'
    clear hJ' hk'
    gi_wp2
    go_end0
    exact ⟨⟨_, rfl⟩, .inl ⟨_, HE.out.symm, J7.out⟩⟩
   have X7 := Lh hX'
   clear hX'
   gi_wp2
   go_end0
   exact ⟨⟨_, rfl⟩, .inr ⟨_, ⟨[], by rw [HE.out, List.append_nil]⟩, X7.out⟩⟩
  rw [e1] at C
  have HE := Lh (show splitK c s.data.toList = (pre ++ [R.take o]) ++ splitK c (R.drop (o + 1)) by rw [HP.out, split_some e3 e4]; simp)
  obtain ⟨fn, tmps, assign, body, hy, hR⟩ := YY.out pre (R.take o) wr HJ.out (by rw [List.length_take]; have := HR.out; omega) HPl.out
  have hy' : (Instr.yield l #[.string (bA (R.take o))]).run Tryz.prog wr = .ok (.round l fn tmps assign body) wr := hy
  have HRR := Lh hR
  have hx1 : (bA R).extract 0 o = bA (R.take o) := by rw [ext_key']; simp
  have hx2 : (bA R).extract (o + 1) (bA R).size = bA (R.drop (o + 1)) := by
   rw [ext_key', bA_size, List.take_of_length_le (by rw [List.length_drop]; exact Nat.le_refl _)]
  have o0 : ¬ (o : Int) < 0 := by omega
  have o1 : (o : Int) ≤ ((bA R).size : Int) := by rw [bA_size]; omega
  have o2 : (o : Int) + 1 ≤ ((bA R).size : Int) := by rw [bA_size]; omega
  have v1 : IntKind.i64.wrap (o : Int) = (o : Int) := IntWalk.i64_in _ (by have := HR.out; omega)
  have v2 : IntKind.i64.wrap ((o : Int) + 1) = ((o + 1 : Nat) : Int) := by rw [IntWalk.i64_in _ (by have := HR.out; omega)]; omega
  have HO := Lh e2
  clear e1 e2 e3 e4 hy hR
  gi_wp2_with (gi_at_call 126; (with_reducible refine (callsIn_wide.2 C.out).mono ?_); rintro e w6 ⟨rfl, rfl⟩)
  refine HRR.out.mono ?_
  rintro e W' (⟨rfl, hJ', hk'⟩ | ⟨rfl, hX'⟩)
  ·have J7 := Lh hJ'
   obtain ⟨k1, _⟩ := hk' ⟨bp, 0, none⟩ _ (.inr (.inl rfl)) c1
   obtain ⟨k2, k4⟩ := hk' ⟨bs, 0, none⟩ _ (.inl rfl) c2
   obtain ⟨k3, _⟩ := hk' ⟨bv, 0, none⟩ _ (.inr (.inr rfl)) c3
   rw [c4] at k4
   have HCn := Lh (show (W'.setCell ⟨bs, 0, none⟩ (.string (bA (R.drop (o + 1))))).cell? ⟨bp, 0, none⟩ = some (.string ⟨#[c]⟩) ∧ (W'.setCell ⟨bs, 0, none⟩ (.string (bA (R.drop (o + 1))))).cell? ⟨bs, 0, none⟩ = some (.string (bA (R.drop (o + 1)))) ∧ (W'.setCell ⟨bs, 0, none⟩ (.string (bA (R.drop (o + 1))))).cell? ⟨bv, 0, none⟩ = some (.int .i64 0) ∧ (W'.setCell ⟨bs, 0, none⟩ (.string (bA (R.drop (o + 1))))).frozen? ⟨bs, 0, none⟩ = false from
    ⟨by rw [World.cell?_setCell_other _ _ _ _ (fun e => HNe.out.1 (congrArg Addr.block e))]; exact k1, cell_near k2 _, by rw [World.cell?_setCell_other _ _ _ _ (fun e => HNe.out.2 (congrArg Addr.block e))]; exact k3, by rw [World.frozen?_setCell]; exact k4⟩)
   have J8 := Lh (JW.out _ W' _ J7.out ⟨bA (R.drop (o + 1)), _, k2, rfl⟩)
   have HM1 := Lh (boxLen_of (b := bs) c2)
   have HM2 := Lh (boxLen_of (b := bs) HCn.out.2.1)
   clear hJ' hk' c1 c2 c3 c4 hy'
   gi_wp2
   go_roundw
   case rel => exact ⟨_, _, HE, Lh (by rw [List.length_drop]; have := HR.out; omega), J8, HCn⟩
   case measure =>
    rw [HM1.out, HM2.out, bA_size, bA_size, List.length_drop]
    have := HO.out
    omega
  have X7 := Lh hX'
  clear hX'
  gi_wp2
  refine bodyPost_ret (results_none rfl _ _ _) rfl ?_
  exact ⟨⟨_, rfl⟩, .inr ⟨_, ⟨_, HE.out⟩, X7.out⟩⟩
theorem SplitSeq_any (s p : ByteArray) (w : World) : Calls Tryz.prog 86 #[.string s, .string p] w fun e w' =>
  e = .returned (.func (.func 151) #[] #[.pointer (some ⟨w.heap.size + 1, 0, none⟩), .pointer (some ⟨w.heap.size, 0, none⟩), .pointer (some ⟨w.heap.size + 2, 0, none⟩)]) ∧
  w' = ((w.alloc (.cells #[.string s] 9)).alloc (.cells #[.string p] 9)).alloc (.cells #[.int .i64 0] 3) := by
 have hmf : ∀ (fn : Fn) (first cap : Array Value) (w : World), (Instr.makeFunc fn first cap).run Tryz.prog w = .ok (.func fn first cap) w := fun _ _ _ _ => rfl
 go_enter Tryz.func86, Tryz.ntmps86
 go_wp2
 go_ret
 exact ⟨rfl, rfl⟩
def Errs (w : World) : Prop := ∀ g, g = 3 ∨ g = 4 → ∃ ev, w.cell? ⟨g, 0, none⟩ = some ev ∧ (ev = .nilIface ∨ ∃ te pe, ev = .iface te pe)
theorem Errs.gr {w w' : World} (h : Errs w) (g : Gr w w') : Errs w' := fun k hk => by
 obtain ⟨ev, h1, h2⟩ := h k hk
 exact ⟨ev, g.cell h1, h2⟩
theorem atoi_yes (d : Key) (v : Int) (h : Lib.atoiAll d = .ok v) (hd : d.length ≤ 1000000) (w : World) : Calls Tryz.prog 123 #[.string (bA d)] w fun e w' => e = .returned (.tuple #[.int .i64 v, .nilIface]) ∧ Gr w w' := by
 have hh := Any.strconv_Atoi_ok Tryz.atoi123 (bA d) (by rw [bA_size]; omega) v (by rw [bA_list]; exact h) w
 refine Calls.mono hh ?_
 rintro e w' ⟨rfl, (rfl | ⟨t, rfl⟩)⟩
 ·exact ⟨rfl, Gr.refl _⟩
 exact ⟨rfl, Lib.bytesWorld_below _ _ _⟩
theorem atoi_not (d : Key) (h : ∀ v, Lib.atoiAll d ≠ .ok v) (hd : d.length ≤ 1000000) (w : World) (he : Errs w) : Calls Tryz.prog 123 #[.string (bA d)] w fun e w' => (∃ n N, e = .returned (.tuple #[.int .i64 n, .iface 226 (.pointer (some ⟨N, 0, none⟩))])) ∧ Gr w w' := by
 rcases ha : Lib.atoiAll d with v | _ | _
 ·exact absurd ha (h v)
 ·obtain ⟨ev, h1, h2⟩ := he 3 (.inl rfl)
  have hh := Any.strconv_Atoi_syntax Tryz.atoi123 (bA d) (by rw [bA_size]; omega) (by rw [bA_list]; exact ha) ev w h1 h2
  refine Calls.mono hh ?_
  rintro e w' ⟨N, rfl, _, _, g⟩
  exact ⟨⟨_, _, rfl⟩, g⟩
 obtain ⟨ev, h1, h2⟩ := he 4 (.inr rfl)
 have hh := Any.strconv_Atoi_range Tryz.atoi123 (bA d) (by rw [bA_size]; omega) (by rw [bA_list]; exact ha) ev w h1 h2
 refine Calls.mono hh ?_
 rintro e w' ⟨N, rfl, _, _, g⟩
 exact ⟨⟨_, _, rfl⟩, g⟩
end Go.Proofs.YtehdemcfeoiecaaGreatDoor
namespace Go.Firn.Tb
section
variable {D E : Type}
theorem map_srt {φ : D → E} {T : Tbl D} (h : SrT T) : SrT (mapT φ T) := by
 unfold mapT SrT
 rw [List.pairwise_map]
 exact h
end
end Go.Firn.Tb
namespace Go.Proofs.YtehdemcfeoiecaaGreatDoor
open Go.Firn Go.Firn.Tb
def GS (L : SL) : Prop := VL L ∧ (∀ x ∈ L, x.1.length ≤ 24) ∧ L ≠ []
theorem GS.of {L : SL} (h : G0 L) : GS L := by
 obtain ⟨h1, h2⟩ := vL_iff.1 h.1
 exact ⟨h1, fun x hx => Nat.le_trans ((over_iff.1 h2).1 x hx).2 (by decide), h.2⟩
def valQ (l : Nat → Int) (L : SL) : Int := vlS l (sx L) (sy L) L.length
theorem valQ_tot (l : Nat → Int) (L : SL) : valQ l L = tot (wK l) L := by unfold valQ; rw [vlS_tot, ofS_sx]
def cosQ (l : Nat → Int) (L : SL) : Int := mnR (csP l (sx L)) L.length
theorem cosQ_is (l : Nat → Int) {L : SL} (h : L ≠ []) : isMn (cK l) L (cosQ l L) := by
 have := cost_is l (sx L) (sy L) (n := L.length) (List.length_pos_iff.2 h)
 rwa [ofS_sx] at this
def Nm8 (l : Nat → Int) (B : Int) : Prop := ∀ i, i < 8 → 0 ≤ l i ∧ l i ≤ B
theorem wK_pos {l : Nat → Int} (hl : ∀ i, i < 8 → 0 ≤ l i) : ∀ {k : Key}, (∀ b ∈ k, 97 ≤ b.toNat ∧ b.toNat ≤ 104) → 0 ≤ wK l k
 | [], _ => by simp [wK]
 | b :: r, h => by
  have h1 := wK_pos hl (k := r) fun c hc => h c (List.mem_cons_of_mem b hc)
  have h2 := h b List.mem_cons_self
  show 0 ≤ l (b.toNat - 97) * wK l r
  exact Int.mul_nonneg (hl _ (by omega)) h1
theorem tot_pos {l : Nat → Int} (hl : ∀ i, i < 8 → 0 ≤ l i) : ∀ {L : SL}, Pos L → (∀ x ∈ L, tkL x.1) → 0 ≤ tot (wK l) L
 | [], _, _ => by simp [tot]
 | x :: r, hp, hk => by
  have h1 := tot_pos hl (L := r) (fun y hy => hp y (List.mem_cons_of_mem x hy)) fun y hy => hk y (List.mem_cons_of_mem x hy)
  have h2 := wK_pos hl (hk x List.mem_cons_self).1
  have h3 := hp x List.mem_cons_self
  have h4 : 0 ≤ x.2 * wK l x.1 := Int.mul_nonneg (by omega) h2
  show 0 ≤ x.2 * wK l x.1 + tot (wK l) r
  omega
theorem valQ_pos {l : Nat → Int} {B : Int} (hl : Nm8 l B) {L : SL} (h : VL L) : 0 ≤ valQ l L := by
 rw [valQ_tot]
 exact tot_pos (fun i hi => (hl i hi).1) h.2.1 h.2.2
def φC (l : Nat → Int) (L : SL) : Int := min (valQ l L) (MX + 1)
theorem cK_bd {l : Nat → Int} {B : Int} (hl : Nm8 l B) (hB : 0 ≤ B) : ∀ {k : Key}, (∀ b ∈ k, 97 ≤ b.toNat ∧ b.toNat ≤ 104) → 0 ≤ cK l k ∧ cK l k ≤ B * k.length
 | [], _ => by simp [cK]
 | b :: r, h => by
  have h1 := cK_bd hl hB (k := r) fun c hc => h c (List.mem_cons_of_mem b hc)
  have h2 := h b List.mem_cons_self
  have h3 := hl (b.toNat - 97) (by omega)
  show 0 ≤ l (b.toNat - 97) + cK l r ∧ l (b.toNat - 97) + cK l r ≤ B * ((r.length + 1 : Nat) : Int)
  rw [Int.natCast_add, Int.mul_add]
  omega
theorem cosQ_bd {l : Nat → Int} (hl : Nm8 l 1000) {L : SL} (h : VL L) (hne : L ≠ []) {N : Nat} (hN : ∀ x ∈ L, x.1.length ≤ N) : 0 ≤ cosQ l L ∧ cosQ l L ≤ 1000 * N := by
 obtain ⟨⟨k, ⟨x, hx, rfl⟩, e⟩, _⟩ := cosQ_is l hne
 have h1 := cK_bd hl (by decide) (h.2.2 x hx).1
 have h2 := hN x hx
 rw [← e]
 omega
def resQ {D : Type} (R : Rg D) (φ : SL → D) (right : Bool) (Ts : List (Int × Tbl SL)) (q : Key) : Except Int (Tbl D × Int) :=
 if vTabs Ts = true then match qry (wsOf Ts) q with
  | none => .error 91
  | some x => if right = true then (match ansQ R (tabsOf φ Ts) x.1 with
   | none => .error 4
   | some T => .ok (T, x.2)) else .error 2
 else .error 90
def fromH (how : Int) (l : Nat → Int) (L : SL) : SL × Int := if how = 1 then (L, 0) else if how = 2 then ([], φC l L) else ([], cosQ l L)
def begH (how : Int) (l : Nat → Int) (T : Tbl SL) : Tbl (SL × Int) := (mapT (fromH how l) T).filter fun x => decide (how ≠ 2) || decide (0 < x.2.2)
def resR (how : Int) (l : Nat → Int) (right : Bool) (Ts : List (Int × Tbl SL)) (q : Key) : Except Int (Tbl (SL × Int) × Int) :=
 if vTabs Ts = true then match qry (wsOf Ts) q with
  | none => .error 91
  | some x => if right = true then (match ansR (RgH how (mulH how) fun _ => true) (mulH how) (Ts.map fun y => begH how l y.2) x.1 with
   | none => .error 4
   | some T => .ok (T, x.2)) else .error 2
 else .error 90
theorem byR_H {how : Int} {m1 m2 mul : SL × Int → SL × Int → SL × Int} {s1 s2 : SL × Int → Bool} (v : Tbl (SL × Int)) : ∀ (u out : Tbl (SL × Int)), byR (RgH how m1 s1) mul v u out = byR (RgH how m2 s2) mul v u out
 | [], _ => rfl
 | x :: r, out => by
  unfold byR
  rw [byR_H v r]
  rfl
theorem tabR_H {how : Int} {m1 m2 mul : SL × Int → SL × Int → SL × Int} {s1 s2 : SL × Int → Bool} (beg : List (Tbl (SL × Int))) (w : Wd) (p : List (Tbl (SL × Int))) : tabR (RgH how m1 s1) mul beg w p = tabR (RgH how m2 s2) mul beg w p := by
 cases w with
 | byy => exact byR_H _ _ _
 | _ => rfl
theorem runR_H {how : Int} {m1 m2 mul : SL × Int → SL × Int → SL × Int} {s1 s2 : SL × Int → Bool} (beg : List (Tbl (SL × Int))) : ∀ (l : List Wd) (p : List (Tbl (SL × Int))), Tb.runR (RgH how m1 s1) mul beg l p = Tb.runR (RgH how m2 s2) mul beg l p
 | [], _ => rfl
 | w :: r, p => by
  unfold Tb.runR
  rw [tabR_H (m2 := m2) (s2 := s2) beg w p, runR_H beg r]
  rfl
theorem ansR_H {how : Int} {m1 m2 mul : SL × Int → SL × Int → SL × Int} {s1 s2 : SL × Int → Bool} (beg : List (Tbl (SL × Int))) (l : List Wd) : ansR (RgH how m1 s1) mul beg l = ansR (RgH how m2 s2) mul beg l := by
 unfold ansR
 rw [runR_H]
theorem beg_at {how : Int} {l : Nat → Int} {Ts : List (Int × Tbl SL)} {n : Nat} (hn : n < Ts.length) : (Ts.map fun y => begH how l y.2).getD n [] = begH how l (Ts[n].2) := by
 rw [List.getD_eq_getElem?_getD, List.getElem?_map, List.getElem?_eq_getElem hn]
 rfl
theorem tabs_at {E D : Type} {φ : SL → E} {ι : E → D} {Ts : List (Int × Tbl SL)} {n : Nat} (hn : n < Ts.length) : ((tabsOf φ Ts).map (mapT ι)).getD n [] = mapT ι (mapT φ (Ts[n].2)) := by
 rw [map_getD, (tabsOf_at (φ := φ) (List.getElem?_eq_getElem hn)).1]
theorem mapT_mapT {D E F : Type} (φ : D → E) (ψ : E → F) (T : Tbl D) : mapT ψ (mapT φ T) = mapT (fun x => ψ (φ x)) T := by simp [mapT]
theorem φC_GC {l : Nat → Int} {B : Int} (hl : Nm8 l B) {L : SL} (h : G0 L) : GC (φC l L) := by
 have := valQ_pos hl (vL_iff.1 h.1).1
 unfold GC φC
 unfold MX
 omega
theorem cosQ_GK {l : Nat → Int} (hl : Nm8 l 1000) {L : SL} (h : G0 L) : GK (cosQ l L) := by
 have h2 := vL_iff.1 h.1
 have := cosQ_bd hl h2.1 h.2 (N := 12) fun x hx => ((over_iff.1 h2.2).1 x hx).2
 unfold GK
 unfold MX
 omega
theorem res2 {l : Nat → Int} {right : Bool} (hl : right = true → Nm8 l 10) (Ts : List (Int × Tbl SL)) (q : Key) : resR 2 l right Ts q = (resQ RgC (φC l) right Ts q).map fun x => (mapT ι2 x.1, x.2) := by
 unfold resR resQ
 by_cases hv : vTabs Ts = true
 ·rw [if_pos hv, if_pos hv]
  cases hq : qry (wsOf Ts) q with
  | none => rfl
  | some x =>
   dsimp only
   cases hr : right with
   | false => rfl
   | true =>
    rw [if_pos rfl, if_pos rfl]
    have hl' := hl hr
    have hpl : ∃ pw, planW (wsOf Ts) x.1 [] = some pw := by
     unfold qry at hq
     split at hq
     ·cases hq
     rename_i y hy
     split at hq
     ·cases hq
      exact ⟨_, planQ_planW hy⟩
     cases hq
    obtain ⟨pw, hpw⟩ := hpl
    have key := ans_same (D := Int) (E := SL × Int) (beg := Ts.map fun y => begH 2 l y.2) hom2 law2 mulR_2 (tabs_GI (φ := φC l) (G' := GC) hv fun L h => φC_GC hl' h) (fun x hx => ⟨rfl, hx⟩) (fun n hn => by
     have hn' : n < Ts.length := by simpa [wsOf] using hn
     rw [beg_at hn', tabs_at hn', mapT_mapT, gath_id _ (map_srt (vTab_TG ((vTabs_iff.1 hv).1 _ (List.getElem_mem hn'))).1.srt)]
     rfl) hpw
    rw [ansR_H (m2 := mulR2) (s2 := stays2), key]
    cases ansQ RgC (tabsOf (φC l) Ts) x.1 <;> rfl
 rw [if_neg hv, if_neg hv]; rfl
theorem res3 {l : Nat → Int} {right : Bool} (hl : right = true → Nm8 l 1000) (Ts : List (Int × Tbl SL)) (q : Key) : resR 3 l right Ts q = (resQ RgK (cosQ l) right Ts q).map fun x => (mapT ι2 x.1, x.2) := by
 unfold resR resQ
 by_cases hv : vTabs Ts = true
 ·rw [if_pos hv, if_pos hv]
  cases hq : qry (wsOf Ts) q with
  | none => rfl
  | some x =>
   dsimp only
   cases hr : right with
   | false => rfl
   | true =>
    rw [if_pos rfl, if_pos rfl]
    have hl' := hl hr
    have hpl : ∃ pw, planW (wsOf Ts) x.1 [] = some pw := by
     unfold qry at hq
     split at hq
     ·cases hq
     rename_i y hy
     split at hq
     ·cases hq
      exact ⟨_, planQ_planW hy⟩
     cases hq
    obtain ⟨pw, hpw⟩ := hpl
    have key := ans_same (D := Int) (E := SL × Int) (beg := Ts.map fun y => begH 3 l y.2) hom3 law3 mulR_3 (tabs_GI (φ := cosQ l) (G' := GK) hv fun L h => cosQ_GK hl' h) (fun x hx => ⟨rfl, hx⟩) (fun n hn => by
     have hn' : n < Ts.length := by simpa [wsOf] using hn
     rw [beg_at hn', tabs_at hn', mapT_mapT, gath_id _ (map_srt (vTab_TG ((vTabs_iff.1 hv).1 _ (List.getElem_mem hn'))).1.srt)]
     rfl) hpw
    rw [ansR_H (m2 := mulR3) (s2 := fun _ => true), key]
    cases ansQ RgK (tabsOf (cosQ l) Ts) x.1 <;> rfl
 rw [if_neg hv, if_neg hv]; rfl
def G1 (d : SL × Int) : Prop := GS d.1 ∧ d.2 = 0
end Go.Proofs.YtehdemcfeoiecaaGreatDoor
namespace Go.Firn.Tb
open Go.Proofs.YtehdemcfeoiecaaGreatDoor
def W14 (p : List Int) : Prop := ∀ x ∈ p, 1 ≤ x ∧ x ≤ 4
theorem W14.nil : W14 [] := fun x hx => by cases hx
theorem W14.at {p : List Int} (h : W14 p) {i : Nat} (hi : i < p.length) : 1 ≤ p.getD i 0 ∧ p.getD i 0 ≤ 4 := by
 rw [List.getD_eq_getElem?_getD, List.getElem?_eq_getElem hi]
 exact h _ (List.getElem_mem hi)
theorem W14.snoc {p : List Int} (h : W14 p) (k : Nat) {x : Int} (hx : 1 ≤ x ∧ x ≤ 4) : W14 (p.take k ++ [x]) := fun y hy => by
 rcases List.mem_append.1 hy with hy | hy
 ·exact h y (List.mem_of_mem_take hy)
 simp only [List.mem_singleton] at hy
 subst hy
 exact hx
theorem wid_bd {ws p q : List Int} {w : Wd} (hw : widW ws w p = some q) (h0 : W14 ws) (hp : W14 p) : W14 q := by
 cases w with
 | put n =>
  unfold widW at hw; simp only [] at hw
  split at hw
  ·rename_i h
   cases hw
   have := hp.snoc p.length (h0.at h)
   rwa [List.take_length] at this
  cases hw
 | orr =>
  unfold widW at hw; simp only [] at hw
  split at hw
  ·cases hw
  split at hw
  ·cases hw; exact hp.snoc _ (hp.at (by omega))
  cases hw
 | byy =>
  unfold widW at hw; simp only [] at hw
  split at hw
  ·cases hw
  split at hw
  ·rename_i h1 h2
   cases hw
   have k1 := hp.at (i := p.length - 2) (by omega)
   have k2 := hp.at (i := p.length - 1) (by omega)
   exact hp.snoc _ (by omega)
  cases hw
 | drop n =>
  unfold widW at hw; simp only [] at hw
  split at hw
  ·cases hw
  split at hw
  ·rename_i h1 h2
   cases hw
   have k2 := hp.at (i := p.length - 1) (by omega)
   exact hp.snoc _ (by omega)
  cases hw
 | pick n m =>
  unfold widW at hw; simp only [] at hw
  split at hw
  ·cases hw
  split at hw
  ·cases hw; exact hp.snoc _ (hp.at (by omega))
  cases hw
 | same n m =>
  unfold widW at hw; simp only [] at hw
  split at hw
  ·cases hw
  split at hw
  ·cases hw; exact hp.snoc _ (hp.at (by omega))
  cases hw
theorem wid_len {ws p q : List Int} {w : Wd} (hw : widW ws w p = some q) : q.length ≤ p.length + 1 := by
 cases w with
 | put n =>
  unfold widW at hw; simp only [] at hw
  split at hw
  ·cases hw; simp
  cases hw
 | orr =>
  unfold widW at hw; simp only [] at hw
  split at hw
  ·cases hw
  split at hw
  ·cases hw; simp
  cases hw
 | byy =>
  unfold widW at hw; simp only [] at hw
  split at hw
  ·cases hw
  split at hw
  ·cases hw; simp
  cases hw
 | drop n =>
  unfold widW at hw; simp only [] at hw
  split at hw
  ·cases hw
  split at hw
  ·cases hw; simp
  cases hw
 | pick n m =>
  unfold widW at hw; simp only [] at hw
  split at hw
  ·cases hw
  split at hw
  ·cases hw; simp
  cases hw
 | same n m =>
  unfold widW at hw; simp only [] at hw
  split at hw
  ·cases hw
  split at hw
  ·cases hw; simp
  cases hw
theorem planQ_bd {ws : List Int} (h0 : W14 ws) : ∀ {a : List Key} {p : List Int} {x : List Wd × List Int}, planQ ws a p = some x → W14 p → W14 x.2 ∧ x.2.length ≤ p.length + a.length
 | [], p, x, h, hp => by simp [planQ] at h; subst h; exact ⟨hp, by simp⟩
 | k :: r, p, x, h, hp => by
  rw [planQ_cons] at h
  cases hw : wdOf k with
  | none => rw [hw] at h; cases h
  | some w =>
   rw [hw] at h
   simp only [] at h
   cases hq : widW ws w p with
   | none => rw [hq] at h; cases h
   | some q =>
    rw [hq] at h
    simp only [] at h
    cases e : planQ ws r q with
    | none => rw [e] at h; cases h
    | some y =>
     rw [e] at h
     simp only [Option.map_some, Option.some.injEq] at h
     subst h
     have ih := planQ_bd h0 e (wid_bd hq h0 hp)
     have := wid_len hq
     refine ⟨ih.1, ?_⟩
     simp only [List.length_cons]
     omega
theorem ws_14 {Ts : List (Int × Tbl SL)} (h : vTabs Ts = true) : W14 (wsOf Ts) ∧ (wsOf Ts).length ≤ 4 := by
 obtain ⟨h1, h2, h3⟩ := vTabs_iff.1 h
 refine ⟨fun x hx => ?_, by simpa [wsOf] using h3⟩
 obtain ⟨y, hy, rfl⟩ := List.mem_map.1 hx
 exact (vTab_iff.1 (h1 y hy)).2.1
end Go.Firn.Tb
namespace Go.Proofs.YtehdemcfeoiecaaGreatDoor
open Go.RowKit Go.Firn Go.Firn.Tb
def dgK : Key → Int
 | [d] => if isDg d = true then (dgv d : Int) else -1
 | _ => -1
theorem bt_one (d : UInt8) : bt (bA [d]) 0 = d.toNat := rfl
theorem digit_any (x : Key) (w : World) (hx : x.length ≤ 1000000) : Calls Tryz.prog 121 #[.string (bA x)] w fun e w' => e = .returned (.int .i64 (dgK x)) ∧ w' = w := by
 by_cases h1 : x.length = 1
 ·obtain ⟨d, rfl⟩ : ∃ d, x = [d] := List.length_eq_one_iff.1 h1
  have s1 : (bA [d]).size = 1 := rfl
  have hi : ∀ w, (Instr.index 9 (.string (bA [d])) (.int .i64 0)).run Tryz.prog w = .ok (.int .u8 (d.toNat : Nat)) w := fun w => by
   have := bt_look (P := Tryz.prog) (t := 9) Tryz.underlying9 (s := bA [d]) (i := 0) (by rw [s1]; omega) w
   rw [bt_one] at this
   exact this
  have hd := d.toNat_lt
  generalize hs : bA [d] = s at *
  by_cases h2 : d.toNat < 48
  ·have E : dgK [d] = -1 := by unfold dgK; simp only []; rw [if_neg (by unfold isDg; simp; omega)]
   have k1 : (d.toNat : Int) < 48 := by omega
   have k2 : decide ((d.toNat : Int) < 48) = true := decide_eq_true k1
   rw [E]
   clear h1 hs E hx
   go_enter Tryz.func121, Tryz.ntmps121
   go_wp2_with fail
   go_ret
   exact ⟨rfl, rfl⟩
  have k1 : ¬ (d.toNat : Int) < 48 := by omega
  have k2 : decide ((d.toNat : Int) < 48) = false := decide_eq_false k1
  by_cases h3 : 57 < d.toNat
  ·have E : dgK [d] = -1 := by unfold dgK; simp only []; rw [if_neg (by unfold isDg; simp; omega)]
   have k3 : 57 < (d.toNat : Int) := by omega
   rw [E]
   clear h1 hs E hx
   go_enter Tryz.func121, Tryz.ntmps121
   go_wp2_with fail
   go_ret
   exact ⟨rfl, rfl⟩
  have E : dgK [d] = ((d.toNat - 48 : Nat) : Int) := by unfold dgK dgv; simp only []; rw [if_pos (by unfold isDg; simp; omega)]
  have k3 : ¬ 57 < (d.toNat : Int) := by omega
  have w2 : IntKind.u8.wrap ((d.toNat : Int) - 48) = ((d.toNat - 48 : Nat) : Int) := by rw [IntKind.wrap_u8]; omega
  have w3 : IntKind.i64.wrap ((d.toNat - 48 : Nat) : Int) = ((d.toNat - 48 : Nat) : Int) := IntWalk.i64_in _ (by omega)
  have hq : d.toNat - 48 ≤ 9 := by omega
  rw [E]
  clear h1 hs E hx h2 h3 hd
  generalize d.toNat - 48 = q at *
  generalize d.toNat = dn at *
  go_enter Tryz.func121, Tryz.ntmps121
  go_wp2_with fail
  go_ret
  exact ⟨rfl, rfl⟩
 have E : dgK x = -1 := by
  unfold dgK
  split
  ·exact absurd rfl h1
  rfl
 have z1 : (((bA x).size : Int) == 1) = false := by rw [bA_size]; simp; omega
 have z2 : (((bA x).size : Int) != 1) = true := by rw [bA_size]; simp; omega
 rw [E]
 clear h1 E hx
 generalize bA x = s at *
 go_enter Tryz.func121, Tryz.ntmps121
 go_wp2_with fail
 go_ret
 exact ⟨rfl, rfl⟩
theorem prefix_is (x K : Key) : Lib.hasPrefix x K = decide (x.take K.length = K) := by
 rw [Bool.eq_iff_iff, decide_eq_true_eq]
 unfold Lib.hasPrefix
 rw [List.isPrefixOf_iff_prefix]
 constructor
 ·rintro ⟨t, rfl⟩; simp
 intro h
 have := List.take_append_drop K.length x
 rw [h] at this
 exact ⟨x.drop K.length, this⟩
theorem cutp_any (x K : Key) (w : World) : Calls Tryz.prog 120 #[.string (bA x), .string (bA K)] w fun e w' => e = .returned (.tuple #[.string (bA (if x.take K.length = K then x.drop K.length else x)), .bool (decide (x.take K.length = K))]) ∧ Gr w w' := by
 have C := Lh (show ∀ w, Calls Tryz.prog 186 #[.string (bA x), .string (bA K)] w fun e w' => e = .returned (.bool (decide (x.take K.length = K))) ∧ w' = w from fun w => by
  have := Any.stringslite_HasPrefix Tryz.hpre186 (bA x) (bA K) w
  rw [bA_list, bA_list, prefix_is] at this
  exact this)
 have D := Lh (show ∀ w, Calls Tryz.prog 153 #[.string (bA x), .string (bA K)] w fun e w' => e = .returned (.tuple #[.string (bA (if x.take K.length = K then x.drop K.length else x)), .bool (decide (x.take K.length = K))]) ∧ Gr w w' from fun w => by
  by_cases h : x.take K.length = K
  ·rw [if_pos h]
   rw [decide_eq_true h] at C ⊢
   have hl : K.length ≤ x.length := by have := congrArg List.length h; rw [List.length_take] at this; omega
   have i1 : ((bA K).size : Int) ≤ ((bA x).size : Int) := by rw [bA_size, bA_size]; omega
   have HX := Lh (show (bA x).extract (bA K).size (bA x).size = bA (x.drop K.length) by
    rw [ext_key', bA_size, bA_size, List.take_of_length_le (by rw [List.length_drop]; exact Nat.le_refl _)])
   clear h hl
   generalize bA (x.drop K.length) = u at *
   generalize bA x = s at *
   generalize bA K = p at *
   go_enter Tryz.func153, Tryz.ntmps153
   go_wp2_with (go_at_call 186; (with_reducible refine (C.out _).mono ?_); rintro e w6 ⟨rfl, rfl⟩)
   refine bodyPost_ret (v := .tuple #[.string (s.extract p.size s.size), .bool true]) (by simp [results, Tryz.results153, go_sem]) rfl ?_
   exact ⟨by rw [HX.out], Gr.refl _⟩
  rw [if_neg h]
  rw [decide_eq_false h] at C ⊢
  clear h
  generalize bA x = s at *
  generalize bA K = p at *
  go_enter Tryz.func153, Tryz.ntmps153
  go_wp2_with (go_at_call 186; (with_reducible refine (C.out _).mono ?_); rintro e w6 ⟨rfl, rfl⟩)
  refine bodyPost_ret (v := .tuple #[.string s, .bool false]) (by simp [results, Tryz.results153, go_sem]) rfl ?_
  exact ⟨rfl, Gr.refl _⟩)
 clear C
 generalize bA (if x.take K.length = K then x.drop K.length else x) = u at *
 generalize decide (x.take K.length = K) = v at *
 generalize bA x = s at *
 generalize bA K = p at *
 go_enter Tryz.func120, Tryz.ntmps120
 go_wp2_with (go_at_call 153; (with_reducible refine (D.out _).mono ?_); rintro e w6 ⟨rfl, g6⟩; have G6 := Lh g6; clear g6)
 refine bodyPost_ret (v := .tuple #[.string u, .bool v]) (by simp [results, Tryz.results120, go_sem]) rfl ?_
 exact ⟨rfl, G6.out⟩
def cutA (p : Key) : Key := p.takeWhile (· != 61)
def cutB (p : Key) : Key := (p.dropWhile (· != 61)).drop 1
theorem ne_eq' {b : UInt8} {c : UInt8} (h : b ≠ c) : (b != c) = true := by simpa using h
theorem cut_word {d e : Key} (hd : (61 : UInt8) ∉ d) : cutA (d ++ 61 :: e) = d ∧ cutB (d ++ 61 :: e) = e := by
 have a : ∀ b ∈ d, (b != (61 : UInt8)) = true := fun b hb => ne_eq' fun k => hd (by rw [← k]; exact hb)
 unfold cutA cutB
 rw [List.takeWhile_append_of_pos a, List.dropWhile_append_of_pos a]
 simp
theorem cut_none {x : Key} (h : (61 : UInt8) ∉ x) : cutA x = x ∧ cutB x = [] := by
 have a : ∀ b ∈ x, (b != (61 : UInt8)) = true := fun b hb => ne_eq' fun k => h (by rw [← k]; exact hb)
 have e1 : x.takeWhile (· != 61) = x := by
  have := List.takeWhile_append_of_pos (l₂ := []) a
  simpa using this
 have e2 : x.dropWhile (· != 61) = [] := by
  have := List.dropWhile_append_of_pos (l₂ := []) a
  simpa using this
 unfold cutA cutB
 rw [e1, e2]
 exact ⟨rfl, rfl⟩
theorem cut_some {x : Key} {o : Nat} (h1 : (61 : UInt8) ∉ x.take o) (h2 : x[o]? = some 61) : cutA x = x.take o ∧ cutB x = x.drop (o + 1) := by
 obtain ⟨hl, e⟩ := List.getElem?_eq_some_iff.1 h2
 have ee : x = x.take o ++ 61 :: x.drop (o + 1) := by
  conv => lhs; rw [← List.take_append_drop o x]
  rw [List.drop_eq_getElem_cons hl, e]
 have := cut_word (d := x.take o) (e := x.drop (o + 1)) h1
 rwa [← ee] at this
theorem cut_le (x : Key) : (cutA x).length ≤ x.length ∧ (cutB x).length ≤ x.length := by
 unfold cutA cutB
 have h1 := (List.takeWhile_sublist (l := x) (· != 61)).length_le
 have h2 := (List.dropWhile_sublist (l := x) (· != 61)).length_le
 rw [List.length_drop]
 omega
def RetCut (x : Key) (w : World) (e : Ending) (w' : World) : Prop := ∃ f, e = .returned (.tuple #[.string (bA (cutA x)), .string (bA (cutB x)), .bool f]) ∧ Gr w w'
theorem cut154 (x : Key) (hx : x.length ≤ 1000000) (w : World) : Calls Tryz.prog 154 #[.string (bA x), .string ⟨#[61]⟩] w (RetCut x w) := by
 have C := Lh (show Calls Tryz.prog 159 #[.string (bA x), .string ⟨#[61]⟩] w fun e w' => e = .returned (.int .i64 (Lib.indexByte x 61)) ∧ w = w' from Calls.mono (Any.stringslite_Index_one Tryz.idx159 (bA x) 61 w) fun e w' ⟨h1, h2⟩ => ⟨h1, h2.symm⟩)
 rcases idx_is 61 x with ⟨e1, e2⟩ | ⟨o, e1, e2, e3, e4⟩
 ·rw [e1] at C
  obtain ⟨c1, c2⟩ := cut_none e2
  have HC := Lh (And.intro c1 c2)
  clear e1 e2 c1 c2
  go_enter Tryz.func154, Tryz.ntmps154
  go_wp2_with (go_at_call 159; (with_reducible refine C.out.mono ?_); rintro e w6 ⟨rfl, rfl⟩)
  refine bodyPost_ret (v := .tuple #[.string (bA x), .string ⟨#[]⟩, .bool false]) (by simp [results, Tryz.results154, go_sem]) rfl ?_
  exact ⟨false, by rw [HC.out.1, HC.out.2]; rfl, Gr.refl _⟩
 rw [e1] at C
 obtain ⟨c1, c2⟩ := cut_some e3 e4
 have HC := Lh (And.intro c1 c2)
 have s1 : o < (bA x).size := by rw [bA_size]; exact e2
 have s2 : (bA x).size ≤ 1000000 := by rw [bA_size]; exact hx
 have i0 : (0 : Int) ≤ (o : Int) := by omega
 have i1 : (o : Int) ≤ ((bA x).size : Int) := by omega
 have i2 : (o : Int) + 1 ≤ ((bA x).size : Int) := by omega
 have w2 : IntKind.i64.wrap ((o : Int) + 1) = (o : Int) + 1 := IntWalk.i64_in _ (by omega)
 have i3 : (0 : Int) ≤ (o : Int) + 1 := by omega
 have i4 : ((o : Int) + 1).toNat = o + 1 := by omega
 have EX := Lh (ext_key' x)
 have EZ := Lh (bA_size x)
 clear e1 e2 e3 e4 c1 c2
 go_enter Tryz.func154, Tryz.ntmps154
 go_wp2_with (go_at_call 159; (with_reducible refine C.out.mono ?_); rintro e w6 ⟨rfl, rfl⟩)
 go_region_held3 (fun _ => True) (trivial) (fail)
 go_wp2_with fail
 refine bodyPost_ret (v := .tuple #[.string ((bA x).extract 0 o), .string ((bA x).extract (o + 1) (bA x).size), .bool true]) (by simp [results, Tryz.results154, go_sem]) rfl ?_
 refine ⟨true, ?_, (Gr.refl _).drew⟩
 rw [EX.out, EX.out, HC.out.1, HC.out.2, EZ.out, List.take_of_length_le (l := x.drop (o + 1)) (by rw [List.length_drop]; exact Nat.le_refl _)]
 rfl
theorem Cut_any (x : Key) (hx : x.length ≤ 1000000) (w : World) : Calls Tryz.prog 122 #[.string (bA x), .string ⟨#[61]⟩] w (RetCut x w) := by
 have C := Lh (cut154 x hx w)
 go_enter Tryz.func122, Tryz.ntmps122
 go_wp2_with (go_at_call 154; (with_reducible refine C.out.mono ?_); rintro e w6 ⟨f, rfl, g6⟩; have G6 := Lh g6; clear g6)
 refine bodyPost_ret (v := .tuple #[.string (bA (cutA x)), .string (bA (cutB x)), .bool f]) (by simp [results, Tryz.results122, go_sem]) rfl ?_
 exact ⟨f, rfl, G6.out⟩
theorem itoa_any (n : Int) (h0 : -9223372036854775808 ≤ n) (h1 : n ≤ 9223372036854775807) (w : World) (hT : Pow10 w) : Calls Tryz.prog 124 #[.int .i64 n] w (RetT (bA (Lib.itoa n)) w) := by
 refine (Any.strconv_Itoa Tryz.itoa124 n (by omega) (by omega) w hT).mono ?_
 rintro e w' ⟨rfl, k, os, rfl⟩
 exact ⟨rfl, Lib.below_grow _ _ (Nat.le_refl _) _ _⟩
end Go.Proofs.YtehdemcfeoiecaaGreatDoor
namespace Go.Firn
open Go.RowKit Go.Deep Go.ChangeShapes Go.WideShapes Go.ChangeAt Go.Firn.Tb Go.Proofs.YtehdemcfeoiecaaGreatDoor
def SzS (L : SL) : Prop := ∀ y ∈ L, y.1.length ≤ 9223372036854775807 ∧ (Lit.int .i64 y.2).wf = true
def SzW (T : Tbl SL) : Prop := ∀ r ∈ T, (∀ x ∈ r.1, (Lit.int .i64 x).wf = true) ∧ SzS r.2
def SzWs (Ts : List (Int × Tbl SL)) : Prop := ∀ x ∈ Ts, (Lit.int .i64 x.1).wf = true ∧ SzW x.2
section
variable {H : Type} {enc : TypeId × Value → H} {P : Program} {w : World} {base : Nat} {spare : Nat → Bool} {held : Bool}
theorem open_Rd3 {t e : TypeId} {fuel : Nat} {cs : List Value} {x : DataW H × List MemPlace} (ht : P.underlying t = some (.slice e)) (he : P.underlying e = some (.int .i64)) (ce : P.cellsOf e = 1)
  (h : DataW.trod enc P w base spare held fuel t cs = some x) : ∃ a n c L, cs = [.slice a n c] ∧ Rd3 w a n c L ∧ ∀ z ∈ L, (Lit.int .i64 z).wf = true := by
 rcases open_ints ht he ce h with ⟨rfl, _⟩ | ⟨ad, len, cap, zs, rfl, _, hl, hm, hz, _, hc, hw⟩
 ·exact ⟨none, 0, 0, [], rfl, ⟨rfl, Nat.le_refl _, by omega, fun _ => rfl, .inl rfl⟩, fun z hz => by cases hz⟩
 have hlz : len ≤ zs.length := by rw [hz]; split <;> omega
 refine ⟨some ad, len, cap, zs.take len, rfl, ⟨by rw [List.length_take]; omega, hl, hm, (fun k => by cases k), ?_⟩, fun z hz => hw z (List.mem_of_mem_take hz)⟩
 by_cases h0 : len = 0
 ·exact .inl h0
 have hs : ad.spot = none := by
  have := World.cell?_spot (hc 0 (by omega))
  simpa [Addr.add] using this
 refine .inr ⟨ad.block, ad.off, by rw [← hs], fun i hi => ?_⟩
 have := hc i (by omega)
 rw [add_flat hs] at this
 rw [this]
 unfold iv
 rw [List.getD_eq_getElem?_getD, List.getD_eq_getElem?_getD, List.getElem?_take, if_pos hi]
theorem open_RdP {t e S E : TypeId} {f0 f1 : Field} {fuel : Nat} {cs : List Value} {x : DataW H × List MemPlace} (ht : P.underlying t = some (.slice e)) (he : P.underlying e = some (.struct #[f0, f1]))
  (ce : P.cellsOf e = 2) (h0 : f0.offset = 0 ∧ f0.type = S) (h1 : f1.offset = 1 ∧ f1.type = E) (cS : P.cellsOf S = 1) (cE : P.cellsOf E = 1) (hS : P.underlying S = some .string) (hE : P.underlying E = some (.int .i64))
  (h : DataW.trod enc P w base spare held fuel t cs = some x) : ∃ a n c L, cs = [.slice a n c] ∧ RdP w a n c L ∧ SzS L := by
 have hh := h
 rcases open_slice ht h with ⟨rfl, _⟩ | ⟨ad, len, cap, m, n, D, Pl, rfl, hb, hl, hm, _⟩
 ·exact ⟨none, 0, 0, [], rfl, ⟨rfl, Nat.le_refl _, by omega, fun _ => rfl, .inl rfl⟩, fun z hz => by cases hz⟩
 obtain ⟨f, g, hn, hz, hr⟩ := RdS.of_trod ht he ce h0 h1 cS cE hS hE hh
 refine ⟨some ad, len, cap, ofS f g len, rfl, ⟨(ofS_length f g len).symm, hl, hm, (fun k => by cases k), ?_⟩, fun y hy => ?_⟩
 ·exact hr.congr fun i hi => ⟨(sx_ofS hi).1.symm, (sx_ofS hi).2.symm⟩
 obtain ⟨i, hi, rfl⟩ := ofS_mem.1 hy
 have := hz i hi
 exact ⟨by rw [size_key]; exact this.1, this.2⟩
theorem open_RdW {t e V Z F G S E : TypeId} {f0 f1 g0 g1 : Field} {fuel : Nat} {cs : List Value} {x : DataW H × List MemPlace} (ht : P.underlying t = some (.slice e)) (he : P.underlying e = some (.struct #[f0, f1]))
  (ce : P.cellsOf e = 2) (h0 : f0.offset = 0 ∧ f0.type = V) (h1 : f1.offset = 1 ∧ f1.type = F) (cV : P.cellsOf V = 1) (cF : P.cellsOf F = 1) (hV : P.underlying V = some (.slice Z)) (hZ : P.underlying Z = some (.int .i64)) (cZ : P.cellsOf Z = 1)
  (hF : P.underlying F = some (.slice G)) (hG : P.underlying G = some (.struct #[g0, g1])) (cG : P.cellsOf G = 2) (k0 : g0.offset = 0 ∧ g0.type = S) (k1 : g1.offset = 1 ∧ g1.type = E) (cS : P.cellsOf S = 1) (cE : P.cellsOf E = 1) (hS : P.underlying S = some .string) (hE : P.underlying E = some (.int .i64))
  (h : DataW.trod enc P w base spare held fuel t cs = some x) : ∃ a n c T, cs = [.slice a n c] ∧ RdW w a n c T ∧ SzW T := by
 obtain ⟨o0, t0⟩ := h0
 obtain ⟨o1, t1⟩ := h1
 rcases open_slice_pairs ht he ce o0 o1 (by rw [t0]; exact cV) (by rw [t1]; exact cF) h with ⟨rfl, _⟩ | ⟨ad, len, cap, m, n, V0, V1, D0, D1, P0, P1, rfl, _, hl, hm, hmm, _, hx⟩
 ·exact ⟨none, 0, 0, [], rfl, ⟨rfl, Nat.le_refl _, by omega, fun _ => rfl, .inl rfl⟩, fun z hz => by cases hz⟩
 have hlm : len ≤ m := by rw [hmm]; split <;> omega
 have each : ∀ i, i < m → ∃ q : List Int × SL, ∃ a1 n1 c1 a2 n2 c2, V0 i = .slice a1 n1 c1 ∧ V1 i = .slice a2 n2 c2 ∧ Rd3 w a1 n1 c1 q.1 ∧ RdP w a2 n2 c2 q.2 ∧ (∀ x ∈ q.1, (Lit.int .i64 x).wf = true) ∧ SzS q.2 := by
  intro i hi
  obtain ⟨_, _, h2, h3⟩ := hx i hi
  rw [t0] at h2
  rw [t1] at h3
  obtain ⟨a1, n1, c1, L, e1, r1, s1⟩ := open_Rd3 hV hZ cZ h2
  obtain ⟨a2, n2, c2, M, e2, r2, s2⟩ := open_RdP hF hG cG k0 k1 cS cE hS hE h3
  simp only [List.cons.injEq, and_true] at e1 e2
  exact ⟨(L, M), a1, n1, c1, a2, n2, c2, e1, e2, r1, r2, s1, s2⟩
 obtain ⟨q, hq⟩ : ∃ q : Nat → List Int × SL, ∀ i, i < m → ∃ a1 n1 c1 a2 n2 c2, V0 i = .slice a1 n1 c1 ∧ V1 i = .slice a2 n2 c2 ∧ Rd3 w a1 n1 c1 (q i).1 ∧ RdP w a2 n2 c2 (q i).2 ∧ (∀ x ∈ (q i).1, (Lit.int .i64 x).wf = true) ∧ SzS (q i).2 := by
  refine ⟨fun i => if h : i < m then (each i h).choose else ([], []), fun i hi => ?_⟩
  simp only [dif_pos hi]
  exact (each i hi).choose_spec
 refine ⟨some ad, len, cap, (List.range len).map q, rfl, ⟨by simp, hl, by unfold maxLen at hm; omega, (fun k => by cases k), ?_⟩, fun r hr => ?_⟩
 ·by_cases hz : len = 0
  ·exact .inl hz
  have hs : ad.spot = none := by
   have := World.cell?_spot (hx 0 (by omega)).1
   simpa [Addr.add] using this
  refine .inr ⟨ad.block, ad.off, by rw [← hs], fun i r hr => ?_⟩
  have hi : i < len := by
   rcases Nat.lt_or_ge i len with k | k
   ·exact k
   rw [List.getElem?_eq_none (by simpa using k)] at hr; cases hr
  rw [List.getElem?_map, List.getElem?_range hi] at hr
  simp only [Option.map_some, Option.some.injEq] at hr
  subst hr
  obtain ⟨c0, c1, _, _⟩ := hx i (by omega)
  rw [add_flat hs] at c0 c1
  obtain ⟨a1, n1, cc1, a2, n2, cc2, e1, e2, r1, r2, _, _⟩ := hq i (by omega)
  exact ⟨a1, n1, cc1, a2, n2, cc2, by rw [c0, e1], by rw [← Nat.add_assoc] at c1; rw [c1, e2], r1, r2⟩
 obtain ⟨i, hi, rfl⟩ := List.mem_map.1 hr
 rw [List.mem_range] at hi
 obtain ⟨_, _, _, _, _, _, _, _, _, _, s1, s2⟩ := hq i (by omega)
 exact ⟨s1, s2⟩
theorem open_RdWs {t e N tt ee V Z F G S E : TypeId} {h0 h1 f0 f1 g0 g1 : Field} {fuel : Nat} {cs : List Value} {x : DataW H × List MemPlace}
  (ht : P.underlying t = some (.slice e)) (he : P.underlying e = some (.struct #[h0, h1])) (ce : P.cellsOf e = 2) (i0 : h0.offset = 0 ∧ h0.type = N) (i1 : h1.offset = 1 ∧ h1.type = tt) (cN : P.cellsOf N = 1) (ctt : P.cellsOf tt = 1) (hN : P.underlying N = some (.int .i64))
  (htt : P.underlying tt = some (.slice ee)) (hee : P.underlying ee = some (.struct #[f0, f1]))
  (cee : P.cellsOf ee = 2) (j0 : f0.offset = 0 ∧ f0.type = V) (j1 : f1.offset = 1 ∧ f1.type = F) (cV : P.cellsOf V = 1) (cF : P.cellsOf F = 1) (hV : P.underlying V = some (.slice Z)) (hZ : P.underlying Z = some (.int .i64)) (cZ : P.cellsOf Z = 1)
  (hF : P.underlying F = some (.slice G)) (hG : P.underlying G = some (.struct #[g0, g1])) (cG : P.cellsOf G = 2) (k0 : g0.offset = 0 ∧ g0.type = S) (k1 : g1.offset = 1 ∧ g1.type = E) (cS : P.cellsOf S = 1) (cE : P.cellsOf E = 1) (hS : P.underlying S = some .string) (hE : P.underlying E = some (.int .i64))
  (h : DataW.trod enc P w base spare held fuel t cs = some x) : ∃ a n c Ts, cs = [.slice a n c] ∧ RdWs w a n c Ts ∧ SzWs Ts := by
 obtain ⟨o0, t0⟩ := i0
 obtain ⟨o1, t1⟩ := i1
 rcases open_slice_pairs ht he ce o0 o1 (by rw [t0]; exact cN) (by rw [t1]; exact ctt) h with ⟨rfl, _⟩ | ⟨ad, len, cap, m, n, V0, V1, D0, D1, P0, P1, rfl, _, hl, hm, hmm, _, hx⟩
 ·exact ⟨none, 0, 0, [], rfl, ⟨rfl, Nat.le_refl _, by omega, fun _ => rfl, .inl rfl⟩, fun z hz => by cases hz⟩
 have hlm : len ≤ m := by rw [hmm]; split <;> omega
 have each : ∀ i, i < m → ∃ q : Int × Tbl SL, ∃ a1 n1 c1, V0 i = .int .i64 q.1 ∧ V1 i = .slice a1 n1 c1 ∧ RdW w a1 n1 c1 q.2 ∧ (Lit.int .i64 q.1).wf = true ∧ SzW q.2 := by
  intro i hi
  obtain ⟨_, _, h2, h3⟩ := hx i hi
  rw [t0] at h2
  rw [t1] at h3
  obtain ⟨p, e1, _, w1⟩ := DataW.trod_int hN h2
  obtain ⟨a2, n2, c2, M, e2, r2, s2⟩ := open_RdW htt hee cee j0 j1 cV cF hV hZ cZ hF hG cG k0 k1 cS cE hS hE h3
  simp only [List.cons.injEq, and_true] at e1 e2
  exact ⟨(p, M), a2, n2, c2, e1, e2, r2, w1, s2⟩
 obtain ⟨q, hq⟩ : ∃ q : Nat → Int × Tbl SL, ∀ i, i < m → ∃ a1 n1 c1, V0 i = .int .i64 (q i).1 ∧ V1 i = .slice a1 n1 c1 ∧ RdW w a1 n1 c1 (q i).2 ∧ (Lit.int .i64 (q i).1).wf = true ∧ SzW (q i).2 := by
  refine ⟨fun i => if h : i < m then (each i h).choose else (0, []), fun i hi => ?_⟩
  simp only [dif_pos hi]
  exact (each i hi).choose_spec
 refine ⟨some ad, len, cap, (List.range len).map q, rfl, ⟨by simp, hl, by unfold maxLen at hm; omega, (fun k => by cases k), ?_⟩, fun r hr => ?_⟩
 ·by_cases hz : len = 0
  ·exact .inl hz
  have hs : ad.spot = none := by
   have := World.cell?_spot (hx 0 (by omega)).1
   simpa [Addr.add] using this
  refine .inr ⟨ad.block, ad.off, by rw [← hs], fun i r hr => ?_⟩
  have hi : i < len := by
   rcases Nat.lt_or_ge i len with k | k
   ·exact k
   rw [List.getElem?_eq_none (by simpa using k)] at hr; cases hr
  rw [List.getElem?_map, List.getElem?_range hi] at hr
  simp only [Option.map_some, Option.some.injEq] at hr
  subst hr
  obtain ⟨c0, c1, _, _⟩ := hx i (by omega)
  rw [add_flat hs] at c0 c1
  obtain ⟨a1, n1, cc1, e1, e2, r1, _, _⟩ := hq i (by omega)
  exact ⟨a1, n1, cc1, by rw [c0, e1], by rw [← Nat.add_assoc] at c1; rw [c1, e2], r1⟩
 obtain ⟨i, hi, rfl⟩ := List.mem_map.1 hr
 rw [List.mem_range] at hi
 obtain ⟨_, _, _, _, _, _, s1, s2⟩ := hq i (by omega)
 exact ⟨s1, s2⟩
end
end Go.Firn
namespace Go.Firn.Tb
theorem Srt'.congr {K : Nat → List Int} {S T : Nat → Nat} {a b : Nat} (h : Srt' K S a b) (e : ∀ p, a ≤ p → p < b → T p = S p) : Srt' K T a b := fun p q h1 h2 h3 => by
 rw [e p h1 (by omega), e q (by omega) h3]; exact h p q h1 h2 h3
theorem Low.congr {S T : Nat → Nat} {a m b : Nat} (h : Low S a m b) (e : ∀ p, a ≤ p → p < b → T p = S p) : Low T a m b := fun p q h1 h2 h3 h4 => by
 rw [e p h1 (by omega), e q (by omega) h4]; exact h p q h1 h2 h3 h4
theorem prm_lt {a e n : Nat} {R S : Nat → Nat} (h : Prm a e R S) (he : e ≤ n) (hR : ∀ p, p < n → R p < n) : ∀ p, p < n → S p < n := fun p hp => by
 by_cases k : a ≤ p ∧ p < e
 ·obtain ⟨q, _, h2, e1⟩ := h.from_ p k.1 k.2
  rw [e1]; exact hR q (by omega)
 rw [h.out p (by omega)]; exact hR p hp
def Two (K : Nat → List Int) (S : Nat → Nat) (a m b : Nat) : Prop := Srt' K S a m ∧ Srt' K S m b ∧ Low S a m b
theorem Two.one {K : Nat → List Int} {S : Nat → Nat} {a m b : Nat} (h : Two K S a m b) (k : a = m ∨ m = b) : Srt' K S a b := by
 rcases k with rfl | rfl
 ·exact h.2.1
 exact h.1
theorem Two.keep {K : Nat → List Int} {S T : Nat → Nat} {z a m b : Nat} (h : Two K S a m b) (p : Prm z a S T) (h1 : a ≤ m) : Two K T a m b :=
 ⟨h.1.congr fun q k1 _ => p.out q (.inr k1), h.2.1.congr fun q k1 _ => p.out q (.inr (by omega)), h.2.2.congr fun q k1 _ => p.out q (.inr k1)⟩
theorem mrg_end {K : Nat → List Int} {R S T U : Nat → Nat} {a mid e : Nat} (ha : a ≤ mid) (he : mid ≤ e) (hS : Prm a e R S) (hx : ∀ p q, a ≤ p → p < mid → mid ≤ q → q < e → ahd K (S p) (S q)) (hT : Srt' K T a mid) (pT : Prm a mid S T) (hU : Srt' K U mid e) (pU : Prm mid e T U) :
  Srt' K U a e ∧ Prm a e R U :=
 ⟨srt_join (mid := mid) (hT.congr fun p _ h2 => pU.out p (.inl h2)) hU (cross_prm hx pT pU), hS.trans ((pT.wide (Nat.le_refl _) he).trans (pU.wide ha (Nat.le_refl _)))⟩
section
variable {D : Type}
theorem plc_sumG {G : D → Prop} (μ : D → Nat) (add : D → D → D) (hp : ∀ a b, G a → G b → μ (add a b) ≤ μ a + μ b) : ∀ (T : List (List Int × D)) (v : List Int) (d : D), (∀ x ∈ T, G x.2) → G d → sumT μ (plc add T v d) ≤ sumT μ T + μ d
 | [], v, d, _, _ => by simp [plc, sumT]
 | y :: r, v, d, hT, hd => by
  unfold plc
  split
  ·rw [sumT_cons, sumT_cons]
   have := plc_sumG μ add hp r v d (fun x hx => hT x (List.mem_cons_of_mem _ hx)) hd
   omega
  split
  ·rw [sumT_cons, sumT_cons]
   have := hp y.2 d (hT y List.mem_cons_self) hd
   simp only
   omega
  rw [sumT_cons]
  simp only
  omega
theorem gat_sumG {G : D → Prop} (μ : D → Nat) (add : D → D → D) (hg : ∀ a b, G a → G b → G (add a b)) (hp : ∀ a b, G a → G b → μ (add a b) ≤ μ a + μ b) (L : List (List Int × D)) : (∀ x ∈ L, G x.2) → sumT μ (gat add L) ≤ sumT μ L := by
 refine snoc_ind (p := fun L => (∀ x ∈ L, G x.2) → sumT μ (gat add L) ≤ sumT μ L) (by simp [gat, sumT]) (fun L z ih h => ?_) L
 rw [gat_snoc, sumT_app]
 have h' : ∀ x ∈ L, G x.2 := fun x hx => h x (by simp [hx])
 have := plc_sumG μ add hp (gat add L) z.1 z.2 (gat_all add hg L h') (h z (by simp))
 have := ih h'
 have e : sumT μ [z] = μ z.2 := by simp [sumT]
 omega
theorem sumT_take (μ : D → Nat) (L : List (List Int × D)) (k : Nat) : sumT μ (L.take k) ≤ sumT μ L := by
 have := sumT_app μ (L.take k) (L.drop k)
 rw [List.take_append_drop] at this
 omega
theorem gat_next {add : D → D → D} {L : Tbl D} {v : List Int} {d : D} (hle : ∀ x ∈ L, ¬ v < x.1) :
  (gat add L = [] ∧ gat add (L ++ [(v, d)]) = [(v, d)]) ∨ ∃ T u e, gat add L = T ++ [(u, e)] ∧ ((u = v ∧ gat add (L ++ [(v, d)]) = T ++ [(v, add e d)]) ∨ (u ≠ v ∧ gat add (L ++ [(v, d)]) = T ++ [(u, e)] ++ [(v, d)])) := by
 rw [gat_snoc]
 simp only
 have hk : ∀ x ∈ gat add L, ¬ v < x.1 := fun x hx => by
  obtain ⟨y, hy, e⟩ := gat_keys add L x hx
  rw [← e]; exact hle y hy
 have hs := gat_srt add L
 generalize gat add L = M at *
 rcases List.eq_nil_or_concat M with rfl | ⟨T, z, rfl⟩
 ·exact .inl ⟨rfl, rfl⟩
 refine .inr ⟨T, z.1, z.2, by simp, ?_⟩
 rw [List.concat_eq_append] at hs hk ⊢
 obtain ⟨_, _, h3⟩ := List.pairwise_append.1 hs
 by_cases e : z.1 = v
 ·refine .inl ⟨e, ?_⟩
  obtain ⟨zv, zd⟩ := z
  simp only at e
  subst e
  exact plc_same add T zv zd d fun x hx => h3 x hx (zv, zd) (by simp)
 refine .inr ⟨e, ?_⟩
 have hz : z.1 < v := tri (hk z (by simp)) (fun k => e k.symm)
 have := plc_last add (T ++ [z]) v d fun x hx => by
  rcases List.mem_append.1 hx with hx | hx
  ·exact List.lt_trans (h3 x hx z (by simp)) hz
  simp at hx; subst hx; exact hz
 exact this
end
end Go.Firn.Tb
