/- Contracts of chapter 9: the reference puts a product into a sum. -/
import Derived.Test.YtehdemcfeoiecaaDoorV4
import Derived.Laws.OwnMore
namespace Go.Proofs.YtehdemcfeoiecaaDoor
open Go.RowKit Go.Firn Go.Shelf Go.Maps Go.WideMaps

/-- An empty row, made. -/
theorem _root_.Go.Firn.OwnS.made {w0 w : World} (g : Gr w0 w) (e : TypeId) : OwnS w0 e (w.alloc (.cells #[] e)) (.slice (some ⟨w.heap.size, 0, none⟩) 0 0) [] :=
  ⟨World.ownsRow_lit w #[] 0 g.size (by unfold maxLen; omega) rfl, g.alloc _⟩
theorem pk_set : ∀ {L : SL} {i : Nat} {k : Key} {q q' : Int}, L[i]? = some (k, q) → (pk L).set (i * 2 + 1) (.int .i64 q') = pk (L.set i (k, q'))
  | x :: r, 0, k, q, q', h => by
    obtain rfl : x = (k, q) := by simpa using h
    rfl
  | x :: r, i + 1, k, q, q', h => by
    have e : pk (x :: r) = .string ⟨x.1.toArray⟩ :: .int .i64 x.2 :: pk r := rfl
    have e2 : pk ((x :: r).set (i + 1) (k, q')) = .string ⟨x.1.toArray⟩ :: .int .i64 x.2 :: pk (r.set i (k, q')) := rfl
    rw [e, e2, show (i + 1) * 2 + 1 = (i * 2 + 1) + 1 + 1 by omega, List.set_cons_succ, List.set_cons_succ, pk_set (L := r) (i := i) (by simpa using h)]
  | [], _, _, _, _, h => by simp at h
theorem _root_.Go.Firn.OwnS.set {w0 w : World} {e : TypeId} {g c i : Nat} {L : SL} {k : Key} {q q' : Int} (h : OwnS w0 e w (.slice (some ⟨g, 0, none⟩) L.length c) L) (hi : L[i]? = some (k, q)) :
    OwnS w0 e (w.setCell ⟨g, i * 2 + 1, none⟩ (.int .i64 q')) (.slice (some ⟨g, 0, none⟩) L.length c) (L.set i (k, q')) := by
  obtain ⟨h1, h2⟩ := h.1.stored (i * 2 + 1) (.int .i64 q')
  refine ⟨?_, h.2.grown h2 fun b hb => ?_⟩
  · rw [pk_set hi] at h1
    rw [List.length_set]
    exact h1
  · cases hb
    exact (h.1.lt g rfl).1
/-- What the slice of such a row is. -/
theorem _root_.Go.Firn.OwnS.shape {w0 w : World} {e : TypeId} {v : Value} {L : SL} (h : OwnS w0 e w v L) : (v = .slice none 0 0 ∧ L = []) ∨ ∃ g c, v = .slice (some ⟨g, 0, none⟩) L.length c ∧ L.length ≤ c ∧ c ≤ maxLen ∧
    ∀ i, i < L.length → w.cell? ⟨g, i * 2, none⟩ = some (.string (sx L i)) ∧ w.cell? ⟨g, i * 2 + 1, none⟩ = some (.int .i64 (sy L i)) ∧ w.frozen? ⟨g, i * 2 + 1, none⟩ = false := by
  have h0 := h.1
  obtain ⟨hl, hv⟩ := h.1
  rcases hv with ⟨rfl, hz⟩ | ⟨g, cap, cur, rfl, hb, hg, hnc, hcm, hcs, htake⟩
  · exact .inl ⟨rfl, List.length_eq_zero_iff.1 hz⟩
  · refine .inr ⟨_, _, rfl, hnc, hcm, fun i hi => ?_⟩
    obtain ⟨p0, p1⟩ := pk_at L i hi
    have c0 := h0.cells (g := g) rfl _ _ p0
    have c1 := h0.cells (g := g) rfl _ _ p1
    rw [add_flat rfl] at c0 c1
    simp only [Nat.zero_add] at c0 c1
    exact ⟨c0, c1, h0.frozenAt _⟩
theorem _root_.Go.Firn.OwnS.down {w0 w1 w : World} {e : TypeId} {v : Value} {L : SL} (h : OwnS w1 e w v L) (g : Gr w0 w1) : OwnS w0 e w v L := by
  refine ⟨⟨h.1.1, ?_⟩, g.trans h.2⟩
  rcases h.1.2 with h1 | ⟨b, cap, cur, h1, h2, h3⟩
  · exact .inl h1
  · exact .inr ⟨b, cap, cur, h1, Nat.le_trans g.size h2, h3⟩
theorem ofS_take {L : SL} {k : Nat} (h : k ≤ L.length) : ofS (sx L) (sy L) k = L.take k := by
  have e : ofS (sx L) (sy L) k = (ofS (sx L) (sy L) L.length).take k := by
    unfold ofS
    rw [← List.map_take, List.take_range, Nat.min_eq_left h]
  rw [e, ofS_sx]
theorem ofS_drop {L : SL} {k : Nat} (h : k ≤ L.length) : ofS (fun i => sx L (k + i)) (fun i => sy L (k + i)) (L.length - k) = L.drop k := by
  apply List.ext_getElem?
  intro i
  rcases Nat.lt_or_ge i (L.length - k) with hi | hi
  · rw [ofS_get hi, List.getElem?_drop, List.getElem?_eq_getElem (show k + i < L.length by omega)]
    simp [sx, sy, List.getD_eq_getElem?_getD, List.getElem?_eq_getElem (show k + i < L.length by omega)]
  · rw [List.getElem?_eq_none (by rw [ofS_length]; exact hi), List.getElem?_eq_none (by simp; omega)]
theorem wpList_none_prod {P : Program} {ops : Array Oper} {rest : List Oper} {o : Oper} {a : Act} {Q : Exit → Act → World → Prop} (hgd : o.guard = none) (s x : Operand) (t e : TypeId)
    (ho : o.op = .call { callee := .builtin .append, args := #[s, x], argTypes := #[t, t] })
    (ht : P.underlying t = some (.slice e)) (hinfo : (P.info? e).map (fun i => (i.zero, i.size, i.bytes)) = some (some (.agg #[.string ⟨#[]⟩, .int .i64 0]), 2, 24))
    {w0 w : World} (v : Value) (L : SL) (hs : a.eval s = v) (hown : OwnS w0 e w v L) (hx : a.eval x = .slice none 0 0)
    (h : wpList P ops Q rest (a.put o.dst v) w) : wpList P ops Q (o :: rest) a w :=
  wpList_plain hgd fun _ hK => by
    obtain ⟨i0, hi, _⟩ := info_prod hinfo
    have hr := run_append_owned_none w w0.heap.size t o.type e i0 2 ht hi v L.length (pk L) hown.1
    unfold Oper.wp execOp
    simp only [ho, resolve, invoke, builtin, Sem.run_bind, Sem.run_pure, Result.andThen_ok, List.map_toArray, List.map_cons, List.map_nil, hs, hx, hr]
    exact hK _ _ h
/-- A row of the call's own. -/
def RetO (w0 : World) (L : SL) (e : Ending) (w' : World) : Prop := ∃ v, e = .returned v ∧ OwnS w0 34 w' v L

theorem Gr.by {w w' : World} (g : Gr w w') (row : Option Nat) : w.grownBy w' row := ⟨g.os, g.tape, g.output, Gr.size g, fun k hk _ => Below.block g k hk⟩
/-- .. and what else is written. -/
def RetPut (w0 : World) (v : Value) (w : World) (L : SL) (e : Ending) (w' : World) : Prop := ∃ v', e = .returned v' ∧ OwnS w0 34 w' v' L ∧ w.grownBy w' v.ownBlock ∧ (v'.ownBlock = v.ownBlock ∨ ∀ b, v'.ownBlock = some b → w.heap.size ≤ b)
theorem RetPut.of {w0 w1 w w' : World} {v v' : Value} {L : SL} (h : OwnS w1 34 w' v' L) (g0 : Gr w0 w) (g : Gr w w1) : RetPut w0 v w L (.returned v') w' :=
  ⟨v', rfl, h.down (g0.trans g), Gr.by (g.trans h.2) _, .inr fun b hb => Nat.le_trans g.size (h.1.lt b hb).1⟩

set_option maxRecDepth 100000 in
set_option maxHeartbeats 8000000 in
theorem put_any (w0 : World) (v : Value) (L : SL) (s : ByteArray) (m : Int) (w : World) (ho : OwnS w0 34 w v L) (hn : L.length ≤ 900000) (hb : ∀ x ∈ L, 0 ≤ x.2 ∧ x.2 + m ≤ 4000000000000000000) (hm : 0 ≤ m) :
    Calls Tryd.prog 65 #[v, .agg #[.string s, .int .i64 m]] w (RetPut w0 v w (putL s.data.toList m L)) := by
  have hbt : s.data.toList = s.toList := (ByteArray.toList_eq s).symm
  obtain ⟨ao, c, rfl, HSh⟩ : ∃ ao c, v = .slice ao L.length c ∧ Hid (∀ W, Gr w W → ∀ i, i < L.length → ∃ g, ao = some ⟨g, 0, none⟩ ∧ W.cell? ⟨g, i * 2, none⟩ = some (.string (sx L i)) ∧ W.cell? ⟨g, i * 2 + 1, none⟩ = some (.int .i64 (sy L i)) ∧ W.frozen? ⟨g, i * 2 + 1, none⟩ = false) := by
    rcases ho.shape with ⟨rfl, rfl⟩ | ⟨g, c, rfl, hc1, hc2, hc3⟩
    · exact ⟨_, _, rfl, Lib.hid fun W _ i hi => by simp at hi⟩
    · exact ⟨_, _, rfl, Lib.hid fun W G i hi => ⟨g, rfl, G.cell (hc3 i hi).1, G.cell (hc3 i hi).2.1, (Below.frozen G (World.block_lt_of_cell? w _ (hc3 i hi).2.1)).trans (hc3 i hi).2.2⟩⟩
  have HCc := Lib.hid (show L.length ≤ c by rcases ho.shape with ⟨e, rfl⟩ | ⟨g, c', e, hc1, _⟩; simp; (cases e; exact hc1))
  have HO := Lib.hid ho
  have HB := Lib.hid hb
  obtain ⟨z0, z1⟩ := box2 w s m 34
  have HBx := Lib.hid (fun W (G : Gr (w.alloc (.cells #[.string s, .int .i64 m] 34)) W) => show W.cell? ⟨w.heap.size, 0, none⟩ = some (.string s) ∧ W.cell? ⟨w.heap.size, 1, none⟩ = some (.int .i64 m) from ⟨G.cell z0, G.cell z1⟩)
  clear ho hb z0 z1
  go_enter Tryd.func65, Tryd.ntmps65
  go_wp2
  go_loopw [5] (fun si wr => ∃ k : Nat, k ≤ L.length ∧ si = .int .i64 k ∧ Hid (∀ i y, i < k → L[i]? = some y → y.1 < s.data.toList) ∧ Hid (Gr (w.alloc (.cells #[.string s, .int .i64 m] 34)) wr)) (fun si _ => L.length - (intOf si).toNat)
  case atStart => exact ⟨0, Nat.zero_le _, rfl, Lib.hid (fun i y h => absurd h (Nat.not_lt_zero i)), Lib.hid (Gr.refl _)⟩
  case round =>
    obtain ⟨k, hk, rfl, HK, HG⟩ := hrel
    obtain ⟨y0, y1⟩ := HBx.out wr HG.out
    have HGw := Lib.hid (show Gr w wr from ((Gr.refl w).alloc _).trans HG.out)
    by_cases hlt : k < L.length
    · have i1 : (k : Int) < (L.length : Int) := by omega
      obtain ⟨g, rfl, c0, c1, c2⟩ := HSh.out wr HGw.out k hlt
      have hx : L[k]? = some ((sx L k).data.toList, sy L k) := by simp [sx, sy, List.getD_eq_getElem?_getD, List.getElem?_eq_getElem hlt]
      have HX := Lib.hid hx
      clear hx
      have HT := Lib.hid (ByteArray.toList_eq (sx L k))
      generalize sx L k = x at *
      generalize sy L k = q at *
      cases hcmp : Op.bytesLess x.toList s.toList with
      | true =>
        have HK2 := Lib.hid (show ∀ i y, i < k + 1 → L[i]? = some y → y.1 < s.data.toList from fun i y hi hy => by
          rcases Nat.lt_succ_iff_lt_or_eq.1 hi with h | rfl
          · exact HK.out i y h hy
          · rw [HX.out] at hy; cases hy; exact bLt_key.1 hcmp)
        go_wp2_with fail
        go_quiet (fail)
        go_wp2
        exact ⟨⟨k + 1, hlt, by go_num, HK2, Lib.hid (HG.out.drewN _)⟩, by simp [intOf]; omega⟩
      | false =>
        go_wp2_with fail
        go_quiet (fail)
        have HG2 := Lib.hid (HG.out.drewN nq)
        have y0' := (HBx.out _ HG2.out).1
        have y1' := (HBx.out _ HG2.out).2
        have c0' : (wr.drewN nq).cell? ⟨g, k * 2, none⟩ = some (.string x) := c0
        have c1' : (wr.drewN nq).cell? ⟨g, k * 2 + 1, none⟩ = some (.int .i64 q) := c1
        have c2' : (wr.drewN nq).frozen? ⟨g, k * 2 + 1, none⟩ = false := c2
        have HOk := Lib.hid (HO.out.gr (HGw.out.drewN nq))
        have HGw2 := Lib.hid (HGw.out.drewN nq)
        clear c0 c1 c2 y0 y1 HG HGw
        generalize wr.drewN nq = w2 at *
        have i2 : (k : Int) ≤ (c : Int) := by have := HCc.out; omega
        have i3 : (L.length : Int) ≤ (c : Int) := by have := HCc.out; omega
        have QE : (q + m ≤ 4000000000000000000 ∧ 0 ≤ q) := by have := HB.out _ (List.mem_of_getElem? HX.out); simp only [] at this; omega
        have e1 : IntKind.i64.wrap (q + m) = q + m := IntWalk.i64_in _ (by omega)
        cases heq : x.toList == s.toList with
        | true =>
          have hxs : x.data.toList = s.data.toList := by rw [hbt, ← HT.out]; exact by simpa using heq
          have HP := Lib.hid (show putL s.data.toList m L = L.set k (s.data.toList, q + m) from put_here (x := (x.data.toList, q)) HK.out HX.out hxs)
          go_wp2_with fail
          go_quiet (fail)
          go_wp2
          go_region
          have HS := (HOk.out.gr ((Gr.refl w2).drewN (nq + 1))).set (q' := q + m) HX.out
          rw [hxs, ← HP.out] at HS
          have HSs := Lib.hid HS
          have HGy := Lib.hid ((Gr.by (HGw2.out.drewN (nq + 1)) (some g)).trans (((HOk.out.gr ((Gr.refl w2).drewN (nq + 1))).1.stored (k * 2 + 1) (.int .i64 (q + m))).2))
          clear HS
          go_wp2
          go_ret
          exact ⟨_, rfl, HSs.out, HGy.out, .inl rfl⟩
        | false =>
          have hne : x.data.toList ≠ s.data.toList := fun e => by rw [hbt, ← HT.out] at e; rw [e] at heq; simp at heq
          have HP := Lib.hid (show putL s.data.toList m L = L.take k ++ (s.data.toList, m) :: L.drop k from put_there HK.out hk fun y hy => by
            rw [HX.out] at hy
            cases hy
            refine ⟨fun h => ?_, hne⟩
            have := bLt_key.2 h
            unfold bLt at this
            rw [hcmp] at this
            cases this)
          clear hne
          go_wp2_with fail
          go_quiet (fail)
          have HGb := Lib.hid (show Gr w (w2.drewN nq) from HGw2.out.drewN nq)
          have HBb := Lib.hid (show Gr (w.alloc (.cells #[.string s, .int .i64 m] 34)) (w2.drewN nq) from HG2.out.drewN nq)
          clear c0' c1' c2' y0' y1'
          go_wp2_with (first
            | (at_builtin; refine wpList_cat_prod rfl _ _ 22 34 rfl Tryd.underlying22 info34 _ [] rfl (OwnS.made (Gr.refl (w2.drewN nq)) 34) g 0 k c (sx L) (sy L) rfl (fun i hi => by obtain ⟨g', e, h1, h2, _⟩ := HSh.out _ (HGb.out.alloc _) i (by omega); cases e; rw [Nat.zero_add]; exact ⟨h1, h2⟩) (by simp; omega) ?_; intro v1 w3 hown3 _; have H3 := Lib.hid hown3; have y3 := HBx.out w3 (HBb.out.trans hown3.2); obtain ⟨y30, y31⟩ := y3; clear hown3)
            | (at_builtin; refine wpList_app_prod rfl _ _ 22 34 rfl Tryd.underlying22 info34 _ _ rfl (H3.out.alloc _) _ _ _ rfl (cell_newp _ _ _ _ rfl) (by simp [ofS_length]; omega) ?_; intro v2 w4 hown4 _; have H4 := Lib.hid hown4; clear hown4)
            | (at_builtin; refine wpList_cat_prod rfl _ _ 22 34 rfl Tryd.underlying22 info34 _ _ rfl H4.out g (k * 2) (L.length - k) (c - k) (fun i => sx L (k + i)) (fun i => sy L (k + i)) rfl (fun i hi => by obtain ⟨g', e, h1, h2, _⟩ := HSh.out _ (HGb.out.trans H4.out.2) (k + i) (by omega); cases e; rw [← Nat.add_mul]; exact ⟨h1, h2⟩) (by simp [ofS_length]; omega) ?_; intro v3 w5 hown5 _; have H5 := Lib.hid hown5; clear hown5))
          go_ret
          have h5 := H5.out
          rw [ofS_take hk, ofS_drop hk, List.nil_append, List.append_assoc, List.singleton_append, ← HP.out] at h5
          exact RetPut.of h5 HO.out.2 HGb.out
    · obtain rfl : k = L.length := by omega
      have HP := Lib.hid (show putL s.data.toList m L = L ++ [(s.data.toList, m)] by
        have := put_there (n := m) HK.out hk fun y hy => by simp at hy
        simpa using this)
      have i1 : ¬ (L.length : Int) < (L.length : Int) := by omega
      have d1 : decide ((L.length : Int) < (L.length : Int)) = false := by simp
      rcases HO.out.shape with ⟨e, hL⟩ | ⟨g, c', e, hl1, hl2, hl3⟩
      · subst hL
        cases e
        go_wp2_with fail
        go_quiet (fail)
        have HG2 := Lib.hid (HG.out.drewN nq)
        have HGw2 := Lib.hid (HGw.out.drewN nq)
        clear HG HGw y0 y1
        generalize wr.drewN nq = w2 at *
        go_wp2_with fail
        go_quiet (fail)
        have HGb := Lib.hid (show Gr w (w2.drewN nq) from HGw2.out.drewN nq)
        have HBb := Lib.hid (show Gr (w.alloc (.cells #[.string s, .int .i64 m] 34)) (w2.drewN nq) from HG2.out.drewN nq)
        have H3 := Lib.hid (OwnS.made (Gr.refl (w2.drewN nq)) 34)
        obtain ⟨y30, y31⟩ := HBx.out _ (HBb.out.trans H3.out.2)
        go_wp2_with (first
          | (at_builtin; refine wpList_none_prod rfl _ _ 22 34 rfl Tryd.underlying22 info34 _ [] rfl H3.out rfl ?_)
          | (at_builtin; refine wpList_app_prod rfl _ _ 22 34 rfl Tryd.underlying22 info34 _ _ rfl (H3.out.alloc _) _ _ _ rfl (cell_newp _ _ _ _ (by simp)) (by simp) ?_; intro v2 w4 hown4 _; have H4 := Lib.hid hown4; clear hown4)
          | (at_builtin; refine wpList_none_prod rfl _ _ 22 34 rfl Tryd.underlying22 info34 _ _ rfl H4.out rfl ?_))
        go_ret
        have h4 := H4.out
        rw [show ([] : SL) ++ [(s.data.toList, m)] = putL s.data.toList m [] from HP.out.symm] at h4
        exact RetPut.of h4 HO.out.2 HGb.out
      · obtain ⟨rfl, rfl⟩ : ao = some ⟨g, 0, none⟩ ∧ c = c' := by simpa using e
        clear e
        have i3 : (L.length : Int) ≤ (c : Int) := by omega
        go_wp2_with fail
        go_quiet (fail)
        have HG2 := Lib.hid (HG.out.drewN nq)
        have HGw2 := Lib.hid (HGw.out.drewN nq)
        clear HG HGw y0 y1 hl3
        generalize wr.drewN nq = w2 at *
        go_wp2_with fail
        go_quiet (fail)
        have HGb := Lib.hid (show Gr w (w2.drewN nq) from HGw2.out.drewN nq)
        have HBb := Lib.hid (show Gr (w.alloc (.cells #[.string s, .int .i64 m] 34)) (w2.drewN nq) from HG2.out.drewN nq)
        rcases (show c = L.length ∨ ¬ c = L.length from Classical.em _) with rfl | hcl
        all_goals (go_wp2_with (first
          | (at_builtin; refine wpList_cat_prod rfl _ _ 22 34 rfl Tryd.underlying22 info34 _ [] rfl (OwnS.made (Gr.refl (w2.drewN nq)) 34) g 0 L.length _ (sx L) (sy L) rfl (fun i hi => by obtain ⟨g', e, h1, h2, _⟩ := HSh.out _ (HGb.out.alloc _) i (by omega); cases e; rw [Nat.zero_add]; exact ⟨h1, h2⟩) (by simp; omega) ?_; intro v1 w3 hown3 _; have H3 := Lib.hid hown3; have y3 := HBx.out w3 (HBb.out.trans hown3.2); obtain ⟨y30, y31⟩ := y3; clear hown3)
          | (at_builtin; refine wpList_app_prod rfl _ _ 22 34 rfl Tryd.underlying22 info34 _ _ rfl (H3.out.alloc _) _ _ _ rfl (cell_newp _ _ _ _ rfl) (by simp [ofS_length]; omega) ?_; intro v2 w4 hown4 _; have H4 := Lib.hid hown4; clear hown4)
          | (at_builtin; refine wpList_cat_prod rfl _ _ 22 34 rfl Tryd.underlying22 info34 _ _ rfl H4.out _ _ 0 _ (fun i => sx L (L.length + i)) (fun i => sy L (L.length + i)) rfl (fun i hi => absurd hi (Nat.not_lt_zero i)) (by simp [ofS_length]; omega) ?_; intro v3 w5 hown5 _; have H5 := Lib.hid hown5; clear hown5)))
        all_goals (
          go_ret
          have h5 := H5.out
          rw [ofS_take (Nat.le_refl _), show ofS (fun i => sx L (L.length + i)) (fun i => sy L (L.length + i)) 0 = [] from rfl, List.nil_append, List.append_nil, List.take_length, ← HP.out] at h5
          exact RetPut.of h5 HO.out.2 HGb.out
          )

end Go.Proofs.YtehdemcfeoiecaaDoor
