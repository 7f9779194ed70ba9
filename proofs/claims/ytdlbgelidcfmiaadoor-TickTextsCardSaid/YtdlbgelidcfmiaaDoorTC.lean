/- Contracts: equal clocks, decimal, Itoa; a row of texts. -/
import Derived.Test.YtdlbgelidcfmiaaDoorTA
import Derived.Test.YtdlbgelidcfmiaaDoorW11
import Derived.Test.YtdlbgelidcfmiaaDoorSheld
import Derived.Lib.AppendIntMem
import Derived.Deep.DeepCutAuto
namespace Go.Proofs.YtdlbgelidcfmiaaDoor
open Go.RowKit Go.Firn Go.Shelf
/-- Are two lists of pairs the same? -/
def eqM (n m : Nat) (f g f' g' : Nat → Int) : Bool := decide (n = m) && (List.range n).all fun i => decide (f i = f' i ∧ g i = g' i)
theorem eqM_true {n m : Nat} {f g f' g' : Nat → Int} : eqM n m f g f' g' = true ↔ n = m ∧ ∀ i, i < n → f i = f' i ∧ g i = g' i := by simp [eqM]
theorem eqM_false_of {n m k : Nat} {f g f' g' : Nat → Int} (hk : k < n) (h : ¬ (f k = f' k ∧ g k = g' k)) : eqM n m f g f' g' = false := by
  cases e : eqM n m f g f' g' with
  | false => rfl
  | true => exact absurd ((eqM_true.1 e).2 k hk) h
set_option maxRecDepth 100000 in
theorem Equal_q (a a' : Option Addr) (n c n' c' : Nat) (f g f' g' : Nat → Int) (w : World) (hn : n ≤ 9223372036854775807) (hn' : n' ≤ 9223372036854775807) (hr : RdM w a n f g) (hr' : RdM w a' n' f' g') :
    Calls Tryd.prog 10 #[.slice a n c, .slice a' n' c'] w (RetDB (eqM n n' f g f' g') w) := by
  by_cases hnn : n = n'
  rotate_left
  · have E := Lib.hid (show eqM n n' f g f' g' = false by simp [eqM, hnn])
    have hne : (n : Int) ≠ n' := by omega
    go_enter Tryd.func10, Tryd.ntmps10
    go_wp2
    go_ret
    rw [E.out]; exact ⟨rfl, 0, rfl⟩
  subst hnn
  go_enter Tryd.func10, Tryd.ntmps10
  go_wp2
  go_loopw [5, 13] (fun _ i wr => ∃ k : Nat, k ≤ n ∧ i = .int .i64 k ∧ Hid (∀ i, i < k → f i = f' i ∧ g i = g' i) ∧ Hid (∃ m, wr = w.drewN m)) (fun _ i _ => n - (intOf i).toNat)
  case atStart => exact ⟨0, by omega, rfl, fun i hi => by omega, 0, rfl⟩
  case round =>
    obtain ⟨k, hk, rfl, H1, Hm⟩ := hrel
    have hg : Gr w wr := by obtain ⟨m, rfl⟩ := Hm.out; exact (Gr.refl w).drewN m
    by_cases hlt : k < n
    · obtain ⟨b, o, rfl, hc⟩ := hr.at hlt
      obtain ⟨b', o', rfl, hc'⟩ := hr'.at hlt
      have c1 := hg.cell (hc k hlt).1
      have c2 := hg.cell (hc k hlt).2
      have c3 := hg.cell (hc' k hlt).1
      have c4 := hg.cell (hc' k hlt).2
      clear hc hr hc' hr'
      have i3 : (0 : Int) ≤ (k : Int) := by omega
      have i4 : (k : Int) < n := by omega
      by_cases ht : f k = f' k
      · by_cases ht2 : g k = g' k
        · have H1' : Hid (∀ i, i < k + 1 → f i = f' i ∧ g i = g' i) := fun i hi => by
            by_cases e : i = k
            · subst e; exact ⟨ht, ht2⟩
            · exact H1.out i (by omega)
          rw [← ht] at c3
          rw [← ht2] at c4
          clear ht ht2
          go_wp2
          go_quiet (fail)
          go_wp2
          go_roundw
          case rel => exact ⟨k + 1, by omega, by go_num, H1', drewN_more Hm.out _⟩
          case measure => simp [intOf]; omega
        · have E := Lib.hid (show eqM n n f g f' g' = false from eqM_false_of hlt (fun h => ht2 h.2))
          rw [← ht] at c3
          clear ht
          go_wp2
          go_quiet (fail)
          go_wp2
          go_ret
          rw [E.out]; exact ⟨rfl, drewN_more Hm.out _⟩
      · have E := Lib.hid (show eqM n n f g f' g' = false from eqM_false_of hlt (fun h => ht h.1))
        go_wp2
        go_quiet (fail)
        go_wp2
        go_ret
        rw [E.out]; exact ⟨rfl, drewN_more Hm.out _⟩
    · have : k = n := by omega
      subst this
      have E := Lib.hid (show eqM k k f g f' g' = true from eqM_true.2 ⟨rfl, H1.out⟩)
      go_wp2_with fail
      go_ret
      rw [E.out]; exact ⟨rfl, Hm.out⟩
/-- A key as a text. -/
def bA (k : Key) : ByteArray := ⟨k.toArray⟩
theorem bA_append (a b : Key) : bA a ++ bA b = bA (a ++ b) := by
  refine ByteArray.ext ?_
  rw [ByteArray.data_append]
  simp [bA]
theorem bA_data (s : ByteArray) : bA s.data.toList = s := rfl
theorem bA_list (k : Key) : (bA k).data.toList = k := rfl
theorem bA_size (k : Key) : (bA k).size = k.length := by simp [bA, ByteArray.size]
/-- A text is returned. -/
def RetT (s : ByteArray) (w : World) (e : Ending) (w' : World) : Prop := e = .returned (.string s) ∧ Gr w w'
theorem back_one (w : World) (c : UInt8) (cp : Nat) : (convert 59 9 (.slice (some ⟨w.heap.size, 0, none⟩) 1 cp)).run Tryd.prog (w.alloc (.cells #[.int .u8 (c.toNat : Nat)] 5)) = .ok (.string (bA [c])) (w.alloc (.cells #[.int .u8 (c.toNat : Nat)] 5)) :=
  run_convert_bytes_back (w.alloc (.cells #[.int .u8 (c.toNat : Nat)] 5)) 59 9 5 ⟨w.heap.size, 0, none⟩ cp [c] Tryd.underlying59 Tryd.underlying5 Tryd.underlying9 (fun j hj => by
    obtain rfl : j = 0 := by simp at hj; exact hj
    rw [add_flat rfl]
    exact cell_new1 w _ 5)
theorem dec_len {n : Nat} (h : n ≤ 1000000000000000000) : (Lib.decDigits n).length ≤ 19 := by
  rw [Lib.decDigits_length]
  exact nDigits_le (k := 18) (by omega)
set_option maxHeartbeats 1000000 in
theorem decimal_any : ∀ (n : Nat), n ≤ 1000000000000000000 → ∀ w, Calls Tryd.prog 24 #[.int .i64 n] w (RetT (bA (Lib.decDigits n)) w) := by
  intro n
  induction n using Nat.strongRecOn with
  | _ n ih =>
    intro hn w
    have i0 : ¬ (n : Int) < 0 := by omega
    by_cases h10 : n < 10
    · have i1 : (n : Int) < 10 := by omega
      have w1 : IntKind.i64.wrap (48 + (n : Int)) = ((48 + n : Nat) : Int) := by rw [IntWalk.i64_in _ (by omega)]; omega
      have w2 : IntKind.u8.wrap ((48 + n : Nat) : Int) = ((UInt8.ofNat (48 + n)).toNat : Int) := by rw [dg_of h10, IntKind.wrap_u8]; omega
      have hb := back_one w (UInt8.ofNat (48 + n))
      have HE := Lib.hid (show Lib.decDigits n = [UInt8.ofNat (48 + n)] by rw [Lib.decDigits, dif_pos h10])
      clear h10 hn ih
      generalize UInt8.ofNat (48 + n) = c at *
      obtain ⟨q, hq⟩ : ∃ q : Int, q = ((48 + n : Nat) : Int) := ⟨_, rfl⟩
      rw [← hq] at w1 w2
      clear hq
      go_enter Tryd.func24, Tryd.ntmps24
      go_wp2_with fail
      go_ret
      rw [HE.out]
      exact ⟨rfl, (Gr.refl w).alloc _⟩
    · have i1 : ¬ (n : Int) < 10 := by omega
      have e1 : (n : Int).tdiv 10 = ((n / 10 : Nat) : Int) := by rw [Int.tdiv_eq_ediv_of_nonneg (by omega)]; omega
      have e2 : (n : Int).tmod 10 = ((n % 10 : Nat) : Int) := by rw [Int.tmod_eq_emod_of_nonneg (by omega)]; omega
      have w1 : IntKind.i64.wrap ((n / 10 : Nat) : Int) = ((n / 10 : Nat) : Int) := IntWalk.i64_in _ (by omega)
      have C1 := Lib.hid (fun wx => ih (n / 10) (by omega) (by omega) wx)
      have C2 := Lib.hid (fun wx => ih (n % 10) (by omega) (by omega) wx)
      have HE := Lib.hid (show bA (Lib.decDigits (n / 10)) ++ bA (Lib.decDigits (n % 10)) = bA (Lib.decDigits n) by
        rw [bA_append]
        conv => rhs; rw [Lib.decDigits, dif_neg h10]
        congr 2
        rw [Lib.decDigits, dif_pos (Nat.mod_lt _ (by omega))])
      have hs : (bA (Lib.decDigits (n / 10))).size + (bA (Lib.decDigits (n % 10))).size ≤ 9223372036854775807 := by
        rw [bA_size, bA_size]
        have := dec_len (n := n / 10) (by omega)
        have := dec_len (n := n % 10) (by omega)
        omega
      clear ih h10 hn
      generalize n / 10 = p at *
      generalize n % 10 = r at *
      generalize bA (Lib.decDigits p) = tp at *
      generalize bA (Lib.decDigits r) = tr at *
      generalize bA (Lib.decDigits n) = tn at *
      go_enter Tryd.func24, Tryd.ntmps24
      go_wp2_with (first
        | (go_at_call 24; (with_reducible refine (C1.out _).mono ?_); rintro e wa ⟨rfl, g1⟩; have G1 := Lib.hid g1; clear g1 C1)
        | (go_at_call 24; (with_reducible refine (C2.out _).mono ?_); rintro e wb ⟨rfl, g2⟩; have G2 := Lib.hid (G1.out.trans g2); clear g2 C2))
      go_ret
      exact ⟨congrArg _ (congrArg _ HE.out), G2.out⟩
/-- A row of texts of the call's own. -/
def OwnW (w0 w : World) (v : Value) (L : List ByteArray) : Prop := w.ownsRow w0.heap.size 9 1 v L.length (L.map Value.string) ∧ Gr w0 w
theorem OwnW.nil {w0 w : World} (g : Gr w0 w) : OwnW w0 w (.slice none 0 0) [] := ⟨World.ownsRow_nil w _ _ _, g⟩
theorem OwnW.gr {w0 w w' : World} {v : Value} {L : List ByteArray} (h : OwnW w0 w v L) (g : Gr w w') : OwnW w0 w' v L :=
  ⟨h.1.kept (row := none) ⟨g.os, g.tape, g.output, Gr.size g, fun k hk _ => Below.block g k hk⟩ (by cases v.ownBlock <;> simp), h.2.trans g⟩
theorem OwnW.row {w0 w : World} {v : Value} {L : List ByteArray} (h : OwnW w0 w v L) : (v = .slice none 0 0 ∧ L = []) ∨ ∃ g c, v = .slice (some ⟨g, 0, none⟩) L.length c ∧ L.length ≤ c ∧ c ≤ maxLen ∧ (∀ i x, L[i]? = some x → w.cell? ⟨g, i, none⟩ = some (.string x) ∧ w.frozen? ⟨g, i, none⟩ = false) ∧ w0.heap.size ≤ g ∧ g < w.heap.size := by
  have h0 := h.1
  obtain ⟨hl, hv⟩ := h.1
  rcases hv with ⟨rfl, hz⟩ | ⟨g, cap, cur, rfl, hb, hg, hnc, hcm, hcs, htake⟩
  · exact .inl ⟨rfl, List.length_eq_zero_iff.1 hz⟩
  · refine .inr ⟨_, _, rfl, hnc, hcm, fun i x hx => ?_, (h0.lt g rfl).1, (h0.lt g rfl).2⟩
    have c0 := h0.cells (g := g) rfl i (.string x) (by simp [hx])
    rw [add_flat rfl] at c0
    simp only [Nat.zero_add] at c0
    exact ⟨c0, h0.frozenAt _⟩
theorem info9 : ∃ i : TypeInfo, Tryd.prog.info? 9 = some i ∧ i.zero = some (.string ⟨#[]⟩) ∧ i.size = 1 ∧ i.bytes = 16 := by
  have h : (Tryd.prog.info? 9).map (fun i => (i.zero, i.size, i.bytes)) = some (some (.string ⟨#[]⟩), 1, 16) := by kernel_rfl
  cases hi : Tryd.prog.info? 9 with
  | none => rw [hi] at h; cases h
  | some i => rw [hi] at h; simp at h; exact ⟨i, rfl, h.1, h.2.1, h.2.2⟩
theorem wpList_app_str {ops : Array Oper} {rest : List Oper} {o : Oper} {a : Act} {Q : Exit → Act → World → Prop} (hgd : o.guard = none) (s x : Operand)
    (ho : o.op = .call { callee := .builtin .append, args := #[s, x], argTypes := #[50, 50] })
    {w0 w : World} (v : Value) (L : List ByteArray) (hs : a.eval s = v) (hown : OwnW w0 w v L)
    (b : Nat) (t : ByteArray) (hx : a.eval x = .slice (some ⟨b, 0, none⟩) 1 1) (hc : w.cell? ⟨b, 0, none⟩ = some (.string t)) (hk : L.length < 999999)
    (h : ∀ v' w', OwnW w0 w' v' (L ++ [t]) → wpList Tryd.prog ops Q rest (a.put o.dst v') w') : wpList Tryd.prog ops Q (o :: rest) a w := by
  obtain ⟨i0, hi, hz0, hz1, hz2⟩ := info9
  refine wpList_append_own w hgd s x 50 ho w0.heap.size 9 i0 _ 1 16 Tryd.underlying50 hi hz0 hz1 hz2 rfl (by decide) v L.length (L.map Value.string) hs hown.1 ⟨b, 0, none⟩ 1 1 [.string t] hx rfl ?_ ?_ (by unfold maxLen; omega) (by omega) hown.2.size ?_
  · intro j u hu
    cases j with
    | zero => simp at hu; subst hu; exact hc
    | succ j => simp at hu
  · intro u hu
    simp at hu
    subst hu
    rfl
  · intro v' w' h1 h2 _
    refine h v' w' ⟨?_, hown.2.grown h2 fun k hk => (hown.1.lt k hk).1⟩
    rw [List.length_append, List.map_append]
    exact h1
/-- The table of powers of ten. -/
def Pow10 (w : World) : Prop := Lib.TabIs Tryd.prog w "internal/strconv.uint64pow10" .u64 Lib.pow10Tab
theorem Pow10.gr {w w' : World} (h : Pow10 w) (g : Gr w w') : Pow10 w' := Lib.tabBelow_of_tabIs h w' g
theorem itoa_any (n : Int) (h0 : 0 ≤ n) (h1 : n ≤ 100000) (w : World) (hT : Pow10 w) : Calls Tryd.prog 21 #[.int .i64 n] w (RetT (bA (Lib.itoa n)) w) := by
  refine (Any.strconv_Itoa Tryd.itoa21 n (by omega) (by omega) w hT).mono ?_
  rintro e w' ⟨rfl, k, os, rfl⟩
  exact ⟨rfl, Lib.below_grow _ _ (Nat.le_refl _) _ _⟩
/-- A text and an error. -/
def RetTE (s : ByteArray) (E : Int) (w : World) (e : Ending) (w' : World) : Prop := e = .returned (.tuple #[.string s, .int .i64 E]) ∧ Gr w w'
theorem ext_key (s : ByteArray) (f i : Nat) : (s.extract f i).data.toList = (s.data.toList.drop f).take (i - f) := by
  rw [ByteArray.data_extract, Array.toList_extract, List.extract_eq_take_drop]
theorem ext_bA (s : ByteArray) (f i : Nat) : s.extract f i = bA ((s.data.toList.drop f).take (i - f)) := by
  rw [← ext_key]
  rfl
theorem bt_at {s : ByteArray} {i : Nat} (h : i < s.size) : s.data.toList[i]? = some (s[i]'h) := by
  rw [List.getElem?_eq_getElem (by rw [size_key]; exact h)]
  rfl
theorem cell_news {w : World} {b : Nat} {v : Value} {e : TypeId} (h : w.heap.size = b) : (w.alloc (.cells #[v] e)).cell? ⟨b, 0, none⟩ = some v := by
  subst h
  exact cell_new1 w v e

end Go.Proofs.YtdlbgelidcfmiaaDoor
