/- Contracts of chapter 9: the tokens of a sum; whether a text has a token. -/
import Derived.Test.YtehdemcfeoiecaaDoorV17
namespace Go.Proofs.YtehdemcfeoiecaaDoor
open Go.RowKit Go.Firn Go.Shelf Go.Maps Go.WideMaps

/-- A row of bytes of the call's own. -/
def OwnY (w0 w : World) (v : Value) (k : Key) : Prop := w.ownsRow w0.heap.size 5 1 v k.length (Lib.byteCells k) ∧ Gr w0 w
theorem OwnY.gr {w0 w w' : World} {v : Value} {k : Key} (h : OwnY w0 w v k) (g : Gr w w') : OwnY w0 w' v k :=
  ⟨h.1.kept (row := none) ⟨g.os, g.tape, g.output, Gr.size g, fun k hk _ => Below.block g k hk⟩ (by cases v.ownBlock <;> simp), h.2.trans g⟩
theorem OwnY.row {w0 w : World} {v : Value} {k : Key} (h : OwnY w0 w v k) : (v = .slice none 0 0 ∧ k = []) ∨ ∃ g c, v = .slice (some ⟨g, 0, none⟩) k.length c ∧ k.length ≤ c ∧ c ≤ maxLen ∧ RowB w g (kb k) ∧ w0.heap.size ≤ g ∧ g < w.heap.size := by
  have h0 := h.1
  obtain ⟨hl, hv⟩ := h.1
  rcases hv with ⟨rfl, hz⟩ | ⟨g, cap, cur, rfl, hb, hg, hnc, hcm, hcs, htake⟩
  · exact .inl ⟨rfl, List.length_eq_zero_iff.1 hz⟩
  · refine .inr ⟨_, _, rfl, hnc, hcm, fun i hi => ?_, (h0.lt g rfl).1, (h0.lt g rfl).2⟩
    rw [kb_size] at hi
    have c0 := h0.cells (g := g) rfl i (.int .u8 ((k[i]'hi).toNat : Nat)) (by simp [Lib.byteCells, hi])
    rw [add_flat rfl] at c0
    simp only [Nat.zero_add] at c0
    rw [kb_at hi]
    exact ⟨c0, h0.frozenAt _⟩

theorem info5 : ∃ i : TypeInfo, Tryd.prog.info? 5 = some i ∧ i.zero = some (.int .u8 0) ∧ i.size = 1 ∧ i.bytes = 1 := by
  have h : (Tryd.prog.info? 5).map (fun i => (i.zero, i.size, i.bytes)) = some (some (.int .u8 0), 1, 1) := by kernel_rfl
  cases hi : Tryd.prog.info? 5 with
  | none => rw [hi] at h; cases h
  | some i => rw [hi] at h; simp at h; exact ⟨i, rfl, h.1, h.2.1, h.2.2⟩
theorem wpList_text {ops : Array Oper} {rest : List Oper} {o : Oper} {a : Act} {Q : Exit → Act → World → Prop} (hgd : o.guard = none) (sl x : Operand)
    (ho : o.op = .call { callee := .builtin .append, args := #[sl, x], argTypes := #[56, 9] })
    {w0 w : World} (v : Value) (k : Key) (hs : a.eval sl = v) (hown : OwnY w0 w v k) (s : ByteArray) (hx : a.eval x = .string s) (hb : k.length + s.size ≤ 1000000)
    (h : ∀ v' w', OwnY w0 w' v' (k ++ s.data.toList) → wpList Tryd.prog ops Q rest (a.put o.dst v') w') : wpList Tryd.prog ops Q (o :: rest) a w := by
  obtain ⟨i, hi, hz, h1, h2⟩ := info5
  refine Lib.wpList_append_own_string w hgd sl x 56 9 ho w0.heap.size 5 i Tryd.underlying56 Tryd.underlying9 hi hz h1 h2 v k.length (Lib.byteCells k) hs hown.1 s hx (by unfold maxLen; omega) (by omega) hown.2.size ?_
  intro v' w' k1 k2 _
  refine h v' w' ⟨?_, hown.2.grown k2 fun k hk => (hown.1.lt k hk).1⟩
  rw [Lib.strCells_eq, ← Lib.byteCells_append] at k1
  rw [List.length_append, size_key]
  exact k1

/-- A text and an error. -/
def RetTE (s : ByteArray) (E : Int) (w : World) (e : Ending) (w' : World) : Prop := e = .returned (.tuple #[.string s, .int .i64 E]) ∧ Gr w w'

set_option maxRecDepth 100000 in
set_option maxHeartbeats 8000000 in
theorem Tokens_list (a : Option Addr) (cp : Nat) (L : SL) (w : World) (hL : vL L = true) (hr : RdS w a L.length (sx L) (sy L)) :
    Calls Tryd.prog 26 #[.slice a L.length cp] w (RetTE ⟨(tokK L).toArray⟩ 0 w) := by
  have C1 := Lib.hid (ValidSum_any a L.length cp (sx L) (sy L) w (vL_len hL) (vL_size hL) hr)
  rw [show vS (sx L) (sy L) L.length = true from hL] at C1
  have HR := Lib.hid hr
  have HLn := Lib.hid (show ∀ k, k ≤ L.length → (allK (L.take k)).length ≤ 12 * k by
    intro k hk
    have := allK_len (L := L.take k) fun x hx => (vL_ok hL).key x (List.mem_of_mem_take hx)
    rw [List.length_take] at this
    omega)
  have H40 := Lib.hid (vL_ok hL).le
  have HSz := Lib.hid (fun i (hi : i < L.length) => show (sx L i).size ≤ 12 by
    have := (vS_at (f := sx L) (g := sy L) (n := L.length) hL).2 i hi
    exact (isTk_at this.1).1)
  have HNx := Lib.hid (fun k (hk : k < L.length) => allK_next (L := L) (k := k) hk)
  clear hL hr
  go_enter Tryd.func26, Tryd.ntmps26
  go_upto_region 3 with (go_at_call 19; (with_reducible refine C1.out.mono ?_); rintro e w1 ⟨rfl, g1⟩; have G1 := Lib.hid g1; clear g1 C1)
  go_wp2_with fail
  go_loopw [4, 12] (fun v s wr => ∃ k : Nat, k ≤ L.length ∧ s = .int .i64 k ∧ Hid (OwnY w wr v (allK (L.take k)))) (fun _ s _ => L.length - (intOf s).toNat)
  case atStart => exact ⟨0, Nat.zero_le _, rfl, Lib.hid ⟨World.ownsRow_nil _ _ _ _, G1.out⟩⟩
  case round =>
    obtain ⟨k, hk, rfl, HO⟩ := hrel
    by_cases hlt : k < L.length
    · have i1 : (k : Int) < (L.length : Int) := by omega
      obtain ⟨b, o, rfl, hc⟩ := (HR.out.gr HO.out.2).at hlt
      obtain ⟨c0, c1⟩ := hc k hlt
      have HN := Lib.hid (HNx.out k hlt)
      have HB := Lib.hid (show (allK (L.take k)).length + (sx L k).size ≤ 1000000 by have := HLn.out k hk; have := HSz.out k hlt; have := H40.out; omega)
      obtain ⟨z0, z1⟩ := box2 wr (sx L k) (sy L k) 34
      have HA := Lib.hid (HO.out.gr ((Gr.refl wr).alloc (.cells #[.string (sx L k), .int .i64 (sy L k)] 34)))
      have w2 : IntKind.i64.wrap ((k : Int) + 1) = ((k + 1 : Nat) : Int) := by rw [IntWalk.i64_in _ (by have := H40.out; omega)]; omega
      clear hc
      generalize sx L k = x at *
      generalize sy L k = y at *
      go_wp2_with (at_builtin; refine wpList_text rfl _ _ rfl _ _ rfl HA.out x rfl HB.out ?_; intro v1 w2 hown; have H1 := Lib.hid hown; clear hown)
      go_roundw
      case rel => exact ⟨k + 1, hlt, by go_num, Lib.hid (by rw [HN.out]; exact H1.out)⟩
      case measure => simp [intOf]; omega
    · obtain rfl : k = L.length := by omega
      have i1 : ¬ (L.length : Int) < (L.length : Int) := by omega
      have HO2 := Lib.hid (show OwnY w wr _ (allK L) by have := HO.out; rwa [List.take_length] at this)
      have HLA := Lib.hid (show (allK L).length ≤ 480 by have := HLn.out L.length (Nat.le_refl _); rw [List.take_length] at this; have := H40.out; omega)
      clear HO HR HLn HSz HNx H40
      rcases HO2.out.row with ⟨rfl, hnil⟩ | ⟨g, c, rfl, h1, h2, h3, h4, h5⟩
      · have S1 := Lib.hid (fun wx => sort_nil wx)
        have S2 := Lib.hid (fun wx => compact_nil wx)
        have hcv : (convert 56 9 (.slice none 0 0)).run Tryd.prog wr = .ok (.string ⟨#[]⟩) wr := by kernel_rfl
        go_wp2_with (first
          | (go_at_call 47; (with_reducible refine (S1.out _).mono ?_); rintro e w3 ⟨rfl, rfl⟩)
          | (go_at_call 48; (with_reducible refine (S2.out _).mono ?_); rintro e w4 ⟨rfl, rfl⟩))
        have ek : tokK L = [] := by unfold tokK sortU; rw [hnil, List.mergeSort_nil]; rfl
        refine bodyPost_ret (v := .tuple #[.string ⟨#[]⟩, .int .i64 0]) (by simp [results, Tryd.results26, go_sem]) rfl ?_
        rw [ek]
        exact ⟨rfl, HO2.out.2⟩
      · have S1 := Lib.hid (sortK g c (allK L).length (allK L) wr rfl (by have := HLA.out; omega) h3 h5)
        have eS : (sortU (allK L)).length = (allK L).length := by unfold sortU; exact (List.mergeSort_perm _ _).length_eq
        have S2 := Lib.hid (fun wx (k : RowB wx g (kb (sortU (allK L)))) => compact_any g c (allK L).length (sortU (allK L)) wx eS h1 (by have := HLA.out; omega) k)
        have HG := Lib.hid (And.intro h4 HO2.out.2)
        have ET := Lib.hid (show Lib.compact (sortU (allK L)) = tokK L from rfl)
        rw [ET.out] at S2
        clear h1 h2 h3 h4 h5 HO2
        generalize (allK L).length = N at *
        generalize tokK L = K at *
        go_upto_region 10 with (go_at_call 47; (with_reducible refine S1.out.mono ?_); rintro e w3 ⟨rfl, q1, q2⟩; have W3 := Lib.hid q1; have R3 := Lib.hid q2; clear q1 q2 S1)
        have S3 := Lib.hid (S2.out _ R3.out)
        clear S2
        go_wp2_with (go_at_call 48; (with_reducible refine S3.out.mono ?_); rintro e w4 ⟨rfl, q1, q2⟩; have hcv := backK (w := w4) (cp := c) rfl q2; have W4 := Lib.hid q1; clear q1 q2 S3)
        refine bodyPost_ret (v := .tuple #[.string ⟨K.toArray⟩, .int .i64 0]) (by simp [results, Tryd.results26, go_sem]) rfl ?_
        exact ⟨rfl, (W3.out.trans W4.out).gr HG.out.2 HG.out.1⟩
end Go.Proofs.YtehdemcfeoiecaaDoor
