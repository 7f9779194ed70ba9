/- Contracts of chapter 9: spared, isToken at a token, Spared. -/
import Derived.Laws.OwnMore
import Derived.Lib.LazyBuf
import Derived.Lib.IndexAny
import Derived.Test.YtehdemcfeoiecaaGreatDoorL01
set_option maxHeartbeats 64000000
set_option maxRecDepth 100000
namespace Go.Proofs.YtehdemcfeoiecaaGreatDoor
open Go.RowKit Go.Firn Go.Shelf Go.Maps Go.WideMaps
theorem _root_.Go.Firn.OwnS.made {w0 w : World} (g : Gr w0 w) (e : TypeId) : OwnS w0 e (w.alloc (.cells #[] e)) (.slice (some ⟨w.heap.size, 0, none⟩) 0 0) [] :=
 ⟨World.ownsRow_lit w #[] 0 g.size (by unfold maxLen; omega) rfl, g.alloc _⟩
theorem pk_set : ∀ {L : SL} {i : Nat} {k : Key} {q q' : Int}, L[i]? = some (k, q) → (pk L).set (i * 2 + 1) (.int .i64 q') = pk (L.set i (k, q'))
 | x :: r, 0, k, q, q', h => by
  obtain rfl : x = (k, q) := by simpa using h
  rfl
 | x :: r, i + 1, k, q, q', h => by
  have e : pk (x :: r) = .string ⟨x.1.toArray⟩ :: .int .i64 x.2 :: pk r := rfl
  have e2 : pk ((x :: r).set (i + 1) (k, q')) = .string ⟨x.1.toArray⟩ :: .int .i64 x.2 :: pk (r.set i (k, q')) := rfl
  rw [e, e2, show (i + 1) * 2 + 1 = (i * 2 + 1) + 1 + 1 by omega, List.set_cons_succ, List.set_cons_succ, pk_set (L := r) (i := i) (by simpa using h)]
 | [], _, _, _, _, h => by simp at h
theorem _root_.Go.Firn.OwnS.set {w0 w : World} {e : TypeId} {g c i : Nat} {L : SL} {k : Key} {q q' : Int} (h : OwnS w0 e w (.slice (some ⟨g, 0, none⟩) L.length c) L) (hi : L[i]? = some (k, q)) :
  OwnS w0 e (w.setCell ⟨g, i * 2 + 1, none⟩ (.int .i64 q')) (.slice (some ⟨g, 0, none⟩) L.length c) (L.set i (k, q')) := by
 obtain ⟨h1, h2⟩ := h.1.stored (i * 2 + 1) (.int .i64 q')
 refine ⟨?_, h.2.grown h2 fun b hb => ?_⟩
 ·rw [pk_set hi] at h1
  rw [List.length_set]
  exact h1
 cases hb
 exact (h.1.lt g rfl).1
def RetO (w0 : World) (L : SL) (e : Ending) (w' : World) : Prop := ∃ v, e = .returned v ∧ OwnS w0 58 w' v L
end Go.Proofs.YtehdemcfeoiecaaGreatDoor
namespace Go.Proofs.YtehdemcfeoiecaaGreatDoor
open Go.RowKit Go.Firn Go.Shelf Go.Maps Go.WideMaps Go.Deep
def SlA (a : Option Addr) (n c : Nat) : Prop := (a = none ∧ n = 0 ∧ c = 0) ∨ ∃ ad, a = some ad
theorem SlA.of_trod {H : Type} {enc : TypeId × Value → H} {P : Program} {w : World} {base : Nat} {spare : Nat → Bool} {held : Bool} {t e S E : TypeId} {f0 f1 : Field} {fuel : Nat} {a : Option Addr} {len cap : Nat} {x : DataW H × List MemPlace} (ht : P.underlying t = some (.slice e)) (he : P.underlying e = some (.struct #[f0, f1]))
  (ce : P.cellsOf e = 2) (h0 : f0.offset = 0 ∧ f0.type = S) (h1 : f1.offset = 1 ∧ f1.type = E) (cS : P.cellsOf S = 1) (cE : P.cellsOf E = 1)
  (h : DataW.trod enc P w base spare held fuel t [.slice a len cap] = some x) : SlA a len cap := by
 obtain ⟨o0, t0⟩ := h0
 obtain ⟨o1, t1⟩ := h1
 rcases open_slice_pairs ht he ce o0 o1 (by rw [t0]; exact cS) (by rw [t1]; exact cE) h with ⟨hcs, _⟩ | ⟨ad, l, c, m, n, V0, V1, D0, D1, P0, P1, hcs, _, hl, hm, hmm, _, hx⟩
 ·simp only [List.cons.injEq, and_true, Value.slice.injEq] at hcs
  exact .inl ⟨hcs.1, hcs.2.1, hcs.2.2⟩
 simp only [List.cons.injEq, and_true, Value.slice.injEq] at hcs
 exact .inr ⟨_, hcs.1⟩
theorem wpList_zero_prod {P : Program} {ops : Array Oper} {rest : List Oper} {o : Oper} {a : Act} {Q : Exit → Act → World → Prop} (hgd : o.guard = none) (s x : Operand) (t e : TypeId)
  (ho : o.op = .call { callee := .builtin .append, args := #[s, x], argTypes := #[t, t] })
  (ht : P.underlying t = some (.slice e)) (hinfo : (P.info? e).map (fun i => (i.zero, i.size, i.bytes)) = some (some (.agg #[.string ⟨#[]⟩, .int .i64 0]), 2, 24))
  {w0 w : World} (v : Value) (L : SL) (hs : a.eval s = v) (hown : OwnS w0 e w v L) (ad : Addr) (c : Nat) (hx : a.eval x = .slice (some ad) 0 c) (hk : L.length ≤ 1000000)
  (h : ∀ v' w', OwnS w0 e w' v' L → wpList P ops Q rest (a.put o.dst v') w') : wpList P ops Q (o :: rest) a w := by
 obtain ⟨i0, hi, hz0, hz1, hz2⟩ := info_prod hinfo
 refine wpList_append_own w hgd s x t ho w0.heap.size e i0 _ 2 24 ht hi hz0 hz1 hz2 rfl (by decide) v L.length (pk L) hs hown.1 ad 0 c [] hx rfl (fun j u hu => by simp at hu) (fun u hu => by simp at hu) (by unfold maxLen; omega) (by omega) hown.2.size ?_
 intro v' w' h1 h2 _
 rw [List.append_nil, Nat.add_zero] at h1
 exact h v' w' ⟨h1, hown.2.grown h2 fun k hk => (hown.1.lt k hk).1⟩
end Go.Proofs.YtehdemcfeoiecaaGreatDoor
namespace Go.Proofs.YtehdemcfeoiecaaGreatDoor
open Go.RowKit Go.Firn Go.Shelf Go.Maps Go.WideMaps
def delP (c : UInt8) (x : Key × Int) : Bool := x.1.contains c
def sparedL (c : UInt8) (L : SL) : SL := L.filter fun x => !delP c x
def PRow (w : World) (g : Nat) (M : SL) : Prop := ∀ i, i < M.length → w.cell? ⟨g, i * 2, none⟩ = some (.string (sx M i)) ∧ w.cell? ⟨g, i * 2 + 1, none⟩ = some (.int .i64 (sy M i)) ∧ w.frozen? ⟨g, i * 2, none⟩ = false ∧ w.frozen? ⟨g, i * 2 + 1, none⟩ = false
theorem PRow.gr {w w' : World} {g : Nat} {M : SL} (h : PRow w g M) (k : Gr w w') : PRow w' g M := fun i hi => by
 obtain ⟨h1, h2, h3, h4⟩ := h i hi
 exact ⟨k.cell h1, k.cell h2, (Below.frozen k (World.block_lt_of_cell? w _ h1)).trans h3, (Below.frozen k (World.block_lt_of_cell? w _ h2)).trans h4⟩
theorem PRow.set {w : World} {g : Nat} {M : SL} (h : PRow w g M) {i : Nat} (hi : i < M.length) (x : Key × Int) :
  PRow ((w.setCell ⟨g, i * 2, none⟩ (.string ⟨x.1.toArray⟩)).setCell ⟨g, i * 2 + 1, none⟩ (.int .i64 x.2)) g (M.set i x) := by
 intro j hj
 rw [List.length_set] at hj
 obtain ⟨h1, h2, h3, h4⟩ := h j hj
 obtain ⟨k1, k2, _, _⟩ := h i hi
 refine ⟨?_, ?_, by simpa using h3, by simpa using h4⟩
 ·by_cases e : i = j
  ·subst e
   have e1 : sx (M.set i x) i = ⟨x.1.toArray⟩ := by simp [sx, List.getD_eq_getElem?_getD, hi]
   rw [e1]
   exact cell_by (cell_near k1 _) (by omega) _
  have e1 : sx (M.set i x) j = sx M j := by simp [sx, List.getD_eq_getElem?_getD, e]
  rw [e1]
  exact cell_by (cell_by h1 (by omega) _) (by omega) _
 by_cases e : i = j
 ·subst e
  have e1 : sy (M.set i x) i = x.2 := by simp [sy, List.getD_eq_getElem?_getD, hi]
  rw [e1]
  exact cell_near (cell_by k2 (by omega) _) _
 have e1 : sy (M.set i x) j = sy M j := by simp [sy, List.getD_eq_getElem?_getD, e]
 rw [e1]
 exact cell_by (cell_by h2 (by omega) _) (by omega) _
theorem PRow.rd {w : World} {g : Nat} {M F : SL} (h : PRow w g M) (hl : F.length ≤ M.length) (ht : M.take F.length = F) : RdS w (some ⟨g, 0, none⟩) F.length (sx F) (sy F) := by
 refine .inr ⟨g, 0, rfl, fun i hi => ?_⟩
 obtain ⟨h1, h2, _, _⟩ := h i (by omega)
 have e1 : M[i]? = F[i]? := by
  conv => rhs; rw [← ht]
  rw [List.getElem?_take, if_pos hi]
 have e2 : sx M i = sx F i := by simp only [sx, List.getD_eq_getElem?_getD, e1]
 have e3 : sy M i = sy F i := by simp only [sy, List.getD_eq_getElem?_getD, e1]
 rw [Nat.zero_add]
 exact ⟨e2 ▸ h1, e3 ▸ h2⟩
theorem PRow.of_own {w0 w : World} {e : TypeId} {v : Value} {L : SL} (h : OwnS w0 e w v L) : (v = .slice none 0 0 ∧ L = []) ∨ ∃ g c, v = .slice (some ⟨g, 0, none⟩) L.length c ∧ L.length ≤ c ∧ c ≤ maxLen ∧ PRow w g L ∧ w0.heap.size ≤ g ∧ g < w.heap.size := by
 have h0 := h.1
 obtain ⟨hl, hv⟩ := h.1
 rcases hv with ⟨rfl, hz⟩ | ⟨g, cap, cur, rfl, hb, hg, hnc, hcm, hcs, htake⟩
 ·exact .inl ⟨rfl, List.length_eq_zero_iff.1 hz⟩
 refine .inr ⟨_, _, rfl, hnc, hcm, fun i hi => ?_, (h0.lt g rfl).1, (h0.lt g rfl).2⟩
 obtain ⟨p0, p1⟩ := pk_at L i hi
 have c0 := h0.cells (g := g) rfl _ _ p0
 have c1 := h0.cells (g := g) rfl _ _ p1
 rw [add_flat rfl] at c0 c1
 simp only [Nat.zero_add] at c0 c1
 exact ⟨c0, c1, h0.frozenAt _, h0.frozenAt _⟩
theorem cf72 (args : Array Value) (wz : World) : (callFunc 97 args).run Tryz.prog wz = .ok (.enter 97 args) wz := by kernel_rfl
theorem del_any (x : Key × Int) (c : UInt8) (bx : Nat) (w : World) (hb : w.cell? ⟨bx, 0, none⟩ = some (.string ⟨#[c]⟩)) :
  Calls Tryz.prog 97 #[.agg #[.string ⟨x.1.toArray⟩, .int .i64 x.2], .pointer (some ⟨bx, 0, none⟩)] w (RetB (delP c x) w) := by
 have C := Lh (fun wx => show Calls Tryz.prog 93 #[.string ⟨x.1.toArray⟩, .string ⟨#[c]⟩] wx fun e w' => e = .returned (.bool (delP c x)) ∧ wx = w' by
  have h := Any.strings_Contains_one Tryz.has69 ⟨x.1.toArray⟩ c wx
  refine Calls.mono h ?_
  rintro e w' ⟨rfl, rfl⟩
  refine ⟨?_, rfl⟩
  unfold delP
  rw [Lib.contains_iff_indexByte])
 have hb2 := ((Gr.refl w).alloc (.cells #[.string ⟨x.1.toArray⟩, .int .i64 x.2] 58)).cell hb
 obtain ⟨z0, z1⟩ := box2 w ⟨x.1.toArray⟩ x.2 58
 generalize delP c x = d at *
 generalize (⟨x.1.toArray⟩ : ByteArray) = s at *
 generalize x.2 = m at *
 have hlt := Lh hb
 clear hb
 go_enter Tryz.func97, Tryz.ntmps97
 go_wp2_with (go_at_call 93; (with_reducible refine (C.out _).mono ?_); rintro e w1 ⟨rfl, rfl⟩)
 go_ret
 exact ⟨rfl, (Gr.refl w).alloc _⟩
def RetIx (p : Nat → Bool) (n : Nat) (w : World) (e : Ending) (w' : World) : Prop := (∃ z : Int, e = .returned (.int .i64 z) ∧ ((z = -1 ∧ ∀ i, i < n → p i = false) ∨ ∃ k : Nat, k < n ∧ z = k ∧ p k = true ∧ ∀ i, i < k → p i = false)) ∧ Gr w w'
theorem index_any (a : Option Addr) (cp : Nat) (L : SL) (c : UInt8) (bx : Nat) (w : World) (hn : L.length ≤ 1000000) (hr : RdS w a L.length (sx L) (sy L)) (hb : w.cell? ⟨bx, 0, none⟩ = some (.string ⟨#[c]⟩)) :
  Calls Tryz.prog 127 #[.slice a L.length cp, .func (.func 97) #[] #[.pointer (some ⟨bx, 0, none⟩)]] w (RetIx (fun i => delP c ((sx L i).data.toList, sy L i)) L.length w) := by
 have HR := Lh hr
 have HB := Lh hb
 have hcf := cf72
 have H := Lh (fun j wz (g : Gr w wz) => show Calls Tryz.prog 97 #[.agg #[.string (sx L j), .int .i64 (sy L j)], .pointer (some ⟨bx, 0, none⟩)] wz (RetB (delP c ((sx L j).data.toList, sy L j)) wz) from del_any ((sx L j).data.toList, sy L j) c bx wz (g.cell HB.out))
 clear hr hb
 generalize L.length = n at *
 generalize sx L = f at *
 generalize sy L = g at *
 go_enter Tryz.func127, Tryz.ntmps127
 go_wp2_with fail
 go_loopw [8] (fun i wr => ∃ k : Nat, k ≤ n ∧ i = .int .i64 k ∧ Hid (∀ i, i < k → delP c ((f i).data.toList, g i) = false) ∧ Gr w wr) (fun i _ => n - (intOf i).toNat)
 case atStart => exact ⟨0, Nat.zero_le _, rfl, Lh (fun i hi => absurd hi (Nat.not_lt_zero i)), Gr.refl _⟩
 case round =>
  obtain ⟨k, hk, rfl, Hi, hg⟩ := hrel
  by_cases hlt : k < n
  ·obtain ⟨b, o, rfl, hc⟩ := (HR.out.gr hg).at hlt
   obtain ⟨c1, c2⟩ := hc k hlt
   have i1 : (k : Int) < n := by omega
   have C := Lh (H.out k wr hg)
   obtain ⟨d, hd⟩ : ∃ d, d = delP c ((f k).data.toList, g k) := ⟨_, rfl⟩
   rw [← hd] at C
   have HD := Lh hd
   clear hc hlt hd
   generalize f k = x at C c1
   generalize g k = y at C c2
   cases d with
   | true =>
    go_wp2_with fail
    refine C.out.mono ?_
    rintro e w1 ⟨rfl, g1⟩
    clear c1 c2
    go_wp2_with fail
    go_ret
    exact ⟨⟨(k : Int), rfl, .inr ⟨k, by omega, rfl, HD.out.symm, Hi.out⟩⟩, hg.trans g1⟩
   | false =>
    go_wp2_with fail
    refine C.out.mono ?_
    rintro e w1 ⟨rfl, g1⟩
    clear c1 c2
    go_wp2_with fail
    go_roundw
    case rel => exact ⟨k + 1, by omega, by go_num, Lh (fun i hi => by
     rcases Nat.lt_succ_iff_lt_or_eq.1 hi with h | rfl
     ·exact Hi.out i h
     exact HD.out.symm), hg.trans g1⟩
    case measure => simp [intOf]; omega
  obtain rfl : k = n := by omega
  go_wp2_with fail
  go_ret
  exact ⟨⟨-1, rfl, .inl ⟨rfl, Hi.out⟩⟩, hg⟩
theorem clone_any (a : Option Addr) (n c : Nat) (f : Nat → ByteArray) (g : Nat → Int) (w : World) (hn : n ≤ 900000) (ha : SlA a n c) (hr : RdS w a n f g) :
  Calls Tryz.prog 96 #[.slice a n c] w (RetO w (ofS f g n)) := by
 have q22 : ∀ (w : World) (a : Option Addr) (n c n' c' : Nat), (binOp .eql 50 (.slice a n c) (.slice none n' c')).run Tryz.prog w = .ok (.bool a.isNone) w := fun w a n c n' c' => Lib.run_eql_slice_nil w _ _ a n c n' c' Tryz.underlying50
 rcases ha with ⟨rfl, rfl, rfl⟩ | ⟨ad, rfl⟩
 ·go_enter Tryz.func96, Tryz.ntmps96
  go_wp2_with fail
  go_ret
  exact ⟨_, rfl, OwnS.nil w 58⟩
 rcases hr with rfl | ⟨b, o, e, hc⟩
 ·go_enter Tryz.func96, Tryz.ntmps96
  go_wp2_with (at_builtin; refine wpList_zero_prod rfl _ _ 50 58 rfl Tryz.underlying50 info34 _ [] rfl (OwnS.made (Gr.refl w) 58) ad c rfl (by simp) ?_; intro v1 w1 hown; have H1 := Lh hown; clear hown)
  go_ret
  exact ⟨_, rfl, H1.out⟩
 cases e
 have HR := Lh hc
 clear hc
 go_enter Tryz.func96, Tryz.ntmps96
 go_wp2_with (at_builtin; refine wpList_cat_prod rfl _ _ 50 58 rfl Tryz.underlying50 info34 _ [] rfl (OwnS.made (Gr.refl w) 58) b o n c f g rfl (fun i hi => ⟨((Gr.refl w).alloc _).cell (HR.out i hi).1, ((Gr.refl w).alloc _).cell (HR.out i hi).2⟩) (by simp; omega) ?_; intro v1 w1 hown _; have H1 := Lh hown; clear hown)
 go_ret
 exact ⟨_, rfl, by have := H1.out; rwa [List.nil_append] at this⟩
theorem _root_.Go.Firn.Wr.setCells {b : Nat} {w : World} (vs : List Value) : ∀ (o : Nat) {w1 : World}, Wr b w w1 → Wr b w (w1.setCells b o vs) := by
 induction vs with
 | nil => intro o w1 h; exact h
 | cons v r ih => intro o w1 h; exact ih (o + 1) (h.set o v)
def WT (b : Nat) (w w' : World) : Prop := Wr b w w' ∧ ∀ e, (∃ cur fz, w.heap[b]? = some (.cells cur e fz)) → ∃ cur fz, w'.heap[b]? = some (.cells cur e fz)
theorem WT.of_gr {b : Nat} {w w' : World} (g : Gr w w') (hb : b < w.heap.size) : WT b w w' := ⟨Wr.of_gr g, fun _ ⟨cur, fz, h⟩ => ⟨cur, fz, (Below.block g b hb).trans h⟩⟩
theorem WT.trans {b : Nat} {w1 w2 w3 : World} (h : WT b w1 w2) (k : WT b w2 w3) : WT b w1 w3 := ⟨h.1.trans k.1, fun e q => k.2 e (h.2 e q)⟩
theorem ty_set {b : Nat} {w : World} {e : TypeId} (o : Nat) (v : Value) (h : ∃ cur fz, w.heap[b]? = some (.cells cur e fz)) : ∃ cur fz, (w.setCell ⟨b, o, none⟩ v).heap[b]? = some (.cells cur e fz) := by
 obtain ⟨cur, fz, h⟩ := h
 unfold World.setCell
 simp [Array.getElem?_modify, h]
theorem WT.set {b : Nat} {w w1 : World} (h : WT b w w1) (o : Nat) (v : Value) : WT b w (w1.setCell ⟨b, o, none⟩ v) := ⟨h.1.set o v, fun e q => ty_set o v (h.2 e q)⟩
theorem WT.setCells {b : Nat} {w : World} (vs : List Value) : ∀ (o : Nat) {w1 : World}, WT b w w1 → WT b w (w1.setCells b o vs) := by
 induction vs with
 | nil => intro o w1 h; exact h
 | cons v r ih => intro o w1 h; exact ih (o + 1) (h.set o v)
theorem clear_prod (w : World) (b o n c : Nat) (hn : 0 < n) (hc : ∀ j, j < n * 2 → (w.cell? ⟨b, o + j, none⟩).isSome = true) (hf : ∀ j, j < n * 2 → w.frozen? ⟨b, o + j, none⟩ = false) :
  ∃ vs : List Value, ∀ ty, (Builtin.clear_ #[50] ty #[.slice (some ⟨b, o, none⟩) n c]).run Tryz.prog w = .ok (.tuple #[]) (w.setCells b o vs) := by
 have hv : (zeroValue 58).run Tryz.prog w = .ok (.agg #[.string ⟨#[]⟩, .int .i64 0]) w := by kernel_rfl
 obtain ⟨vs, hvs⟩ : ∃ vs, (Builtin.zeroCells (Value.agg #[.string ⟨#[]⟩, .int .i64 0]).cells n).toList = vs := ⟨_, rfl⟩
 have hz : (Value.agg #[.string ⟨#[]⟩, .int .i64 0]).cells = #[.string ⟨#[]⟩, .int .i64 0] := rfl
 have hl : vs.length = n * 2 := by rw [← hvs, hz]; simp [Builtin.zeroCells]
 have h1 : ∀ v ∈ vs, v.oneCell' = true := by
  intro v hv
  rw [← hvs, hz] at hv
  simp only [Builtin.zeroCells, Array.toList_map, List.mem_map] at hv
  obtain ⟨i, _, rfl⟩ := hv
  show (#[Value.string ⟨#[]⟩, Value.int .i64 0][i % 2]!).oneCell' = true
  rcases Nat.mod_two_eq_zero_or_one i with h | h <;> rw [h] <;> rfl
 have hst := run_storeCells_cells (P := Tryz.prog) b o vs 0 w (by simpa [hl] using hc) (by simpa [hl] using hf) h1
 simp only [Nat.add_zero] at hst
 obtain ⟨m, rfl⟩ : ∃ m, n = m + 1 := ⟨n - 1, by omega⟩
 exact ⟨vs, fun ty => by simp [Builtin.clear_, run_underlying Tryz.underlying50, hv, hvs, hst]⟩
theorem spared_app (c : UInt8) (A B : SL) : sparedL c (A ++ B) = sparedL c A ++ sparedL c B := by simp [sparedL]
theorem spared_none {c : UInt8} {A : SL} (h : ∀ x ∈ A, delP c x = false) : sparedL c A = A := by
 unfold sparedL
 rw [List.filter_eq_self]
 intro x hx
 rw [h x hx]
 rfl
theorem spared_le (c : UInt8) (A : SL) : (sparedL c A).length ≤ A.length := List.length_filter_le _ _
theorem get_sx {L : SL} {k : Nat} (h : k < L.length) : L[k]? = some ((sx L k).data.toList, sy L k) := by simp [sx, sy, List.getD_eq_getElem?_getD, List.getElem?_eq_getElem h]
theorem take_next {L : SL} {k : Nat} (h : k < L.length) : L.take (k + 1) = L.take k ++ [((sx L k).data.toList, sy L k)] := by
 rw [List.take_add_one, get_sx h]
 rfl
theorem spared_skip {c : UInt8} {L : SL} {k : Nat} (h : k < L.length) (hd : delP c ((sx L k).data.toList, sy L k) = true) : sparedL c (L.take (k + 1)) = sparedL c (L.take k) := by
 rw [take_next h, spared_app]
 simp [sparedL, hd]
theorem spared_keep {c : UInt8} {L : SL} {k : Nat} (h : k < L.length) (hd : delP c ((sx L k).data.toList, sy L k) = false) : sparedL c (L.take (k + 1)) = sparedL c (L.take k) ++ [((sx L k).data.toList, sy L k)] := by
 rw [take_next h, spared_app]
 simp [sparedL, hd]
theorem drop_get {M L : SL} {j k : Nat} (h : M.drop j = L.drop j) (hk : j ≤ k) : sx M k = sx L k ∧ sy M k = sy L k := by
 have e : M[k]? = L[k]? := by
  have := congrArg (fun A : SL => A[k - j]?) h
  simp only [List.getElem?_drop] at this
  rwa [show j + (k - j) = k by omega] at this
 exact ⟨by simp only [sx, List.getD_eq_getElem?_getD, e], by simp only [sy, List.getD_eq_getElem?_getD, e]⟩
theorem set_take {M : SL} {i : Nat} (h : i < M.length) (x : Key × Int) : (M.set i x).take (i + 1) = M.take i ++ [x] := by
 rw [List.take_add_one, List.take_set_of_le (Nat.le_refl i), List.getElem?_set_self h]
 rfl
theorem set_drop {M L : SL} {i j : Nat} (h : M.drop j = L.drop j) (hi : i < j) (x : Key × Int) : (M.set i x).drop (j + 1) = L.drop (j + 1) := by
 rw [List.drop_set_of_lt (by omega)]
 have := congrArg (List.drop 1) h
 rwa [List.drop_drop, List.drop_drop] at this
theorem drop_more {M L : SL} {j : Nat} (h : M.drop j = L.drop j) : M.drop (j + 1) = L.drop (j + 1) := by
 have := congrArg (List.drop 1) h
 rwa [List.drop_drop, List.drop_drop] at this
def RetDel (g cp : Nat) (F : SL) (w : World) (e : Ending) (w' : World) : Prop := e = .returned (.slice (some ⟨g, 0, none⟩) F.length cp) ∧ WT g w w' ∧ RdS w' (some ⟨g, 0, none⟩) F.length (sx F) (sy F)
theorem delete_any (g cp : Nat) (L : SL) (c : UInt8) (bx : Nat) (w : World) (hn : L.length ≤ 900000) (hcp : L.length ≤ cp) (hcm : cp ≤ 9223372036854775807) (hP : PRow w g L) (hb : w.cell? ⟨bx, 0, none⟩ = some (.string ⟨#[c]⟩)) (hne : bx ≠ g) (hg : g < w.heap.size) :
  Calls Tryz.prog 95 #[.slice (some ⟨g, 0, none⟩) L.length cp, .func (.func 97) #[] #[.pointer (some ⟨bx, 0, none⟩)]] w (RetDel g cp (sparedL c L) w) := by
 have CI := Lh (index_any (some ⟨g, 0, none⟩) cp L c bx w (by omega) (hP.rd (Nat.le_refl _) (List.take_length)) hb)
 have HP := Lh hP
 have HB := Lh hb
 have HN := Lh hne
 have HGs := Lh hg
 have hcf := cf72
 have H := Lh (fun (x : ByteArray) (y : Int) wz (k : wz.cell? ⟨bx, 0, none⟩ = some (.string ⟨#[c]⟩)) => show Calls Tryz.prog 97 #[.agg #[.string x, .int .i64 y], .pointer (some ⟨bx, 0, none⟩)] wz (RetB (delP c (x.data.toList, y)) wz) from del_any (x.data.toList, y) c bx wz k)
 have HC := Lh (And.intro hn (And.intro hcp hcm))
 clear hP hb hne hg hn hcp hcm
 go_enter Tryz.func95, Tryz.ntmps95
 go_upto_region 2 with (go_at_call 127; (with_reducible refine CI.out.mono ?_); rintro e w1 ⟨⟨z, rfl, hz⟩, g1⟩; have HZ := Lh hz; have G1 := Lh g1; clear hz g1 CI)
 rcases HZ.out with ⟨rfl, ha⟩ | ⟨k, hk, rfl, hd, hbf⟩
 ·have HA := Lh ha
  clear ha HZ
  go_wp2_with fail
  go_ret
  have e : sparedL c L = L := spared_none fun x hx => by
   obtain ⟨i, hi, rfl⟩ := List.getElem_of_mem hx
   have := HA.out i hi
   have e := get_sx hi
   rw [List.getElem?_eq_getElem hi] at e
   rw [Option.some.inj e]
   exact this
  rw [e]
  exact ⟨rfl, WT.of_gr G1.out HGs.out, (HP.out.gr G1.out).rd (Nat.le_refl _) List.take_length⟩
 have HK := Lh hk
 have HD := Lh hd
 have HF := Lh (show sparedL c (L.take k) = L.take k from spared_none fun x hx => by
  obtain ⟨i, hi, rfl⟩ := List.getElem_of_mem hx
  have hi' : i < k := by rw [List.length_take] at hi; omega
  have := hbf i hi'
  have e := get_sx (L := L) (k := i) (by omega)
  rw [List.getElem?_eq_getElem (by omega)] at e
  rw [List.getElem_take, Option.some.inj e]
  exact this)
 clear hd hbf HZ
 have i0 : (decide ((k : Int) = -1)) = false := by simp
 have i1 : IntKind.i64.wrap ((k : Int) + 1) = ((k + 1 : Nat) : Int) := by rw [IntWalk.i64_in _ (by have := HC.out; omega)]; omega
 clear hk
 go_wp2_with fail
 go_loopw [5, 6] (fun s5 s6 wr => ∃ (i j : Nat) (M : SL), s5 = .int .i64 i ∧ s6 = .int .i64 j ∧ Hid (i < j ∧ j ≤ L.length) ∧ Hid (M.length = L.length) ∧ Hid (M.take i = sparedL c (L.take j)) ∧ Hid (M.drop j = L.drop j) ∧ Hid (PRow wr g M) ∧ Hid (WT g w wr)) (fun _ s6 _ => L.length - (intOf s6).toNat)
 case atStart => exact ⟨k, k + 1, L, rfl, by go_num, Lh ⟨by omega, HK.out⟩, Lh rfl, Lh (by rw [spared_skip HK.out HD.out, HF.out]), Lh rfl, Lh (HP.out.gr G1.out), Lh (WT.of_gr G1.out HGs.out)⟩
 case round =>
  obtain ⟨i, j, M, rfl, rfl, Hij, HM, HT, HDr, HR, HW⟩ := hrel
  clear i0 i1
  by_cases hlt : j < L.length
  ·have i1 : (j : Int) < (L.length : Int) := by omega
   have cj := HR.out j (by rw [HM.out]; exact hlt)
   have ci := HR.out i (by rw [HM.out]; have := Hij.out; omega)
   obtain ⟨e1, e2⟩ := drop_get HDr.out (Nat.le_refl j)
   rw [e1, e2] at cj
   obtain ⟨cj0, cj1, _, _⟩ := cj
   obtain ⟨ci0, ci1, fi0, fi1⟩ := ci
   obtain ⟨d, hd⟩ : ∃ d, d = delP c ((sx L j).data.toList, sy L j) := ⟨_, rfl⟩
   have HDj := Lh hd
   have hb2 := HW.out.1.cell HB.out HN.out
   have HTk := Lh (fun h => spared_keep (c := c) (L := L) (k := j) hlt h)
   have HTs := Lh (fun h => spared_skip (c := c) (L := L) (k := j) hlt h)
   have HRs := Lh (fun W (k : PRow W g M) => k.set (i := i) (by rw [HM.out]; have := Hij.out; omega) ((sx L j).data.toList, sy L j))
   clear hd e1 e2
   have i2 : (i : Int) < (L.length : Int) := by have := Hij.out; omega
   have HLj := Lh hlt
   have w1 : IntKind.i64.wrap ((i : Int) + 1) = ((i + 1 : Nat) : Int) := by rw [IntWalk.i64_in _ (by have := HC.out; omega)]; omega
   have w2 : IntKind.i64.wrap ((j : Int) + 1) = ((j + 1 : Nat) : Int) := by rw [IntWalk.i64_in _ (by have := HC.out; omega)]; omega
   clear hlt
   generalize sx L j = x at *
   generalize sy L j = y at *
   obtain ⟨z0, z1⟩ := box2 wr x y 58
   have gA : Gr wr (wr.alloc (.cells #[.string x, .int .i64 y] 58)) := (Gr.refl wr).alloc _
   have Cc := Lh (H.out x y (wr.alloc (.cells #[.string x, .int .i64 y] 58)) (gA.cell hb2))
   rw [← HDj.out] at Cc
   have HZ0 := Lh (And.intro z0 z1)
   have HGA := Lh gA
   have HRA := Lh (HR.out.gr gA)
   clear hb2 gA
   cases d with
   | true =>
    have HT2 := Lh ((HTs.out HDj.out.symm).symm ▸ HT.out : M.take i = sparedL c (L.take (j + 1)))
    clear z0 z1 ci0 ci1 fi0 fi1
    go_wp2_with fail
    refine Cc.out.mono ?_
    rintro e w3 ⟨rfl, g3⟩
    have G3 := Lh (HGA.out.trans g3)
    clear g3
    go_wp2_with fail
    go_roundw
    case rel => (repeat apply Exists.intro); exact ⟨⟨i, j + 1, M, rfl, by go_num, Lh (by have := Hij.out; have := HLj.out; omega), HM, HT2, Lh (drop_more HDr.out), Lh (HR.out.gr G3.out), Lh (HW.out.trans (WT.of_gr G3.out (Nat.lt_of_lt_of_le HGs.out HW.out.1.size)))⟩, rfl⟩
    case measure => have := HLj.out; simp [intOf]; omega
   | false =>
    have HT2 := Lh (show (M.set i (x.data.toList, y)).take (i + 1) = sparedL c (L.take (j + 1)) by rw [HTk.out HDj.out.symm, set_take (by rw [HM.out]; have := Hij.out; have := HLj.out; omega), HT.out])
    clear z0 z1 ci0 ci1 fi0 fi1
    go_wp2_with fail
    refine Cc.out.mono ?_
    rintro e w3 ⟨rfl, g3⟩
    have G3 := Lh (HGA.out.trans g3)
    have ci := (HR.out.gr G3.out) i (by rw [HM.out]; have := Hij.out; have := HLj.out; omega)
    obtain ⟨ci0, ci1, fi0, fi1⟩ := ci
    have z0 := g3.cell HZ0.out.1
    have z1 := g3.cell HZ0.out.2
    have HPs := Lh (show PRow ((w3.setCell ⟨g, i * 2, none⟩ (.string x)).setCell ⟨g, i * 2 + 1, none⟩ (.int .i64 y)) g (M.set i (x.data.toList, y)) from HRs.out w3 (HR.out.gr G3.out))
    have HWs := Lh (((HW.out.trans (WT.of_gr G3.out (Nat.lt_of_lt_of_le HGs.out HW.out.1.size))).set (i * 2) (.string x)).set (i * 2 + 1) (.int .i64 y))
    have ci1' := cell_by (k := i * 2) ci1 (by omega) (.string x)
    clear g3 HRs HRA HGA HZ0
    go_wp2_with fail
    go_roundw
    case rel => (repeat apply Exists.intro); exact ⟨⟨i + 1, j + 1, M.set i (x.data.toList, y), by go_num, by go_num, Lh (by have := Hij.out; have := HLj.out; omega), Lh (by rw [List.length_set]; exact HM.out), HT2, Lh (set_drop HDr.out Hij.out.1 _), HPs, HWs⟩, rfl⟩
    case measure => have := HLj.out; simp [intOf]; omega
  obtain rfl : j = L.length := by have := Hij.out; omega
  have i1 : ¬ (L.length : Int) < (L.length : Int) := by omega
  have HF2 := Lh (show M.take i = sparedL c L by rw [HT.out, List.take_length])
  have HL2 := Lh (show (sparedL c L).length = i by rw [← HF2.out, List.length_take, HM.out]; have := Hij.out; omega)
  obtain ⟨vs, hvs⟩ := clear_prod wr g (i * 2) (L.length - i) (cp - i) (by have := Hij.out; omega) (fun q hq => by
   have := HR.out (i + q / 2) (by rw [HM.out]; omega)
   rcases Nat.mod_two_eq_zero_or_one q with h | h
   ·rw [show i * 2 + q = (i + q / 2) * 2 by omega, this.1]; rfl
   ·rw [show i * 2 + q = (i + q / 2) * 2 + 1 by omega, this.2.1]; rfl) (fun q hq => by
   have := HR.out (i + q / 2) (by rw [HM.out]; omega)
   rcases Nat.mod_two_eq_zero_or_one q with h | h
   ·rw [show i * 2 + q = (i + q / 2) * 2 by omega]; exact this.2.2.1
   rw [show i * 2 + q = (i + q / 2) * 2 + 1 by omega]; exact this.2.2.2)
  have i2 : (i : Int) ≤ (L.length : Int) := by have := Hij.out; omega
  have i3 : (i : Int) ≤ (cp : Int) := by have := Hij.out; have := HC.out; omega
  have i4 : (L.length : Int) ≤ (cp : Int) := by have := HC.out; omega
  have i5 : ¬ cp = i := by have := Hij.out; have := HC.out; omega
  have HRd := Lh (show RdS (wr.setCells g (i * 2) vs) (some ⟨g, 0, none⟩) (sparedL c L).length (sx (sparedL c L)) (sy (sparedL c L)) by
   rcases HR.out.rd (F := sparedL c L) (by rw [HL2.out, HM.out]; have := Hij.out; omega) (by rw [HL2.out]; exact HF2.out) with h | ⟨b, o, e, h⟩
   ·exact .inl h
   cases e
   refine .inr ⟨g, 0, rfl, fun q hq => ?_⟩
   rw [HL2.out] at hq
   obtain ⟨h1, h2⟩ := h q (by rw [HL2.out]; exact hq)
   rw [World.cell?_setCells_out, World.cell?_setCells_out]
   ·exact ⟨h1, h2⟩
   ·intro _ _; left; show 0 + q * 2 + 1 < i * 2; omega
   intro _ _; left; show 0 + q * 2 < i * 2; omega)
  have HWs := Lh (HW.out.setCells vs (i * 2))
  go_wp2_with fail
  go_ret
  exact ⟨by rw [HL2.out]; rfl, HWs.out, HRd.out⟩
end Go.Proofs.YtehdemcfeoiecaaGreatDoor
namespace Go.Proofs.YtehdemcfeoiecaaGreatDoor
open Go.RowKit Go.Firn Go.Shelf Go.Maps Go.WideMaps Go.Firn.Tb
def RetS8 (L : SL) (w : World) (e : Ending) (w' : World) : Prop := ∃ a c, e = .returned (.slice a L.length c) ∧ RdP w' a L.length c L ∧ Gr w w' ∧ Old RS.EW w' 58 L.length a
theorem del_own (w0 : World) (v : Value) (L : SL) (c : UInt8) (bx : Nat) (w : World) (hn : L.length ≤ 900000) (ho : OwnS w0 58 w v L) (hb : w0.cell? ⟨bx, 0, none⟩ = some (.string ⟨#[c]⟩)) :
  Calls Tryz.prog 95 #[v, .func (.func 97) #[] #[.pointer (some ⟨bx, 0, none⟩)]] w (RetS8 (sparedL c L) w0) := by
 have hlt := World.block_lt_of_cell? w0 _ hb
 have G := ho.2
 rcases PRow.of_own ho with ⟨rfl, rfl⟩ | ⟨g, cp, rfl, h1, h2, h3, h4, h5⟩
 ·have CI := Lh (show Calls Tryz.prog 127 #[.slice none 0 0, .func (.func 97) #[] #[.pointer (some ⟨bx, 0, none⟩)]] w _ from index_any none 0 [] c bx w (by simp) (.inl rfl) (G.cell hb))
  have HG := Lh G
  clear ho hb hlt G
  go_enter Tryz.func95, Tryz.ntmps95
  go_upto_region 2 with (go_at_call 127; (with_reducible refine CI.out.mono ?_); rintro e w1 ⟨⟨z, rfl, hz⟩, g1⟩; have HZ := Lh hz; have G1 := Lh g1; clear hz g1 CI)
  rcases HZ.out with ⟨rfl, ha⟩ | ⟨k, hk, _⟩
  ·clear ha HZ
   go_wp2_with fail
   go_ret
   exact ⟨none, 0, rfl, ⟨rfl, Nat.le_refl _, Nat.zero_le _, fun _ => rfl, .inl rfl⟩, HG.out.trans G1.out, .inl rfl⟩
  exact absurd hk (by simp)
 have hty : ∃ cur fz, w.heap[g]? = some (.cells cur 58 fz) := by
  obtain ⟨⟨_, hv⟩, _⟩ := ho
  rcases hv with ⟨e, _⟩ | ⟨g', cap, cur, e, _, hg, _⟩
  ·cases e
  cases e
  exact ⟨cur, _, hg⟩
 refine (delete_any g cp L c bx w hn h1 (by unfold maxLen at h2; omega) h3 (G.cell hb) (fun e => by subst e; exact absurd hlt (Nat.not_lt.2 h4)) h5).mono ?_
 rintro e w' ⟨rfl, k1, k2⟩
 obtain ⟨cur, fz, ht⟩ := k1.2 58 hty
 exact ⟨_, _, rfl, ⟨rfl, Nat.le_trans (spared_le c L) h1, by unfold maxLen at h2; omega, (fun e => by cases e), k2⟩, k1.1.gr G h4, .inr fun ad e => by
  obtain rfl := Option.some.inj e
  exact .inr ⟨cur, fz, ht⟩⟩
theorem spared_any (a : Option Addr) (cp : Nat) (L : SL) (c : UInt8) (w : World) (hn : L.length ≤ 900000) (ha : SlA a L.length cp) (hr : RdS w a L.length (sx L) (sy L)) :
  Calls Tryz.prog 66 #[.slice a L.length cp, .string ⟨#[c]⟩] w (RetS8 (sparedL c L) w) := by
 have hmf : ∀ (fn : Fn) (first cap : Array Value) (w : World), (Instr.makeFunc fn first cap).run Tryz.prog w = .ok (.func fn first cap) w := fun _ _ _ _ => rfl
 have gA : Gr w (w.alloc (.cells #[.string ⟨#[c]⟩] 9)) := (Gr.refl w).alloc _
 have C1 := Lh (clone_any a L.length cp (sx L) (sy L) (w.alloc (.cells #[.string ⟨#[c]⟩] 9)) hn ha (hr.gr gA))
 have C2 := Lh (fun v wx (k : OwnS (w.alloc (.cells #[.string ⟨#[c]⟩] 9)) 58 wx v L) => del_own (w.alloc (.cells #[.string ⟨#[c]⟩] 9)) v L c w.heap.size wx hn k (cell_new1 w _ 9))
 rw [ofS_sx] at C1
 have HGA := Lh gA
 clear gA ha hr hn
 go_enter Tryz.func66, Tryz.ntmps66
 go_wp2_with (first
  | (go_at_call 96; (with_reducible refine C1.out.mono ?_); rintro e w1 ⟨v, rfl, h1⟩; have H1 := Lh h1; clear h1 C1)
  | (go_at_call 95; (with_reducible refine (C2.out _ _ H1.out).mono ?_); rintro e w2 ⟨a2, c2, rfl, q1, g2, q2⟩; have R := Lh (And.intro q1 q2); have G2 := Lh (HGA.out.trans g2); clear q1 q2 g2))
 go_ret
 exact ⟨a2, c2, rfl, R.out.1, G2.out, R.out.2⟩
def tok (c : UInt8) : Prop := 97 ≤ c.toNat ∧ c.toNat ≤ 104
theorem isToken_tok (c : UInt8) (h : tok c) (w : World) : Calls Tryz.prog 62 #[.string ⟨#[c]⟩] w fun e w' => e = .returned (.bool true) ∧ w = w' := by
 have C := Lh (fun wx => show Calls Tryz.prog 93 #[.string ⟨#[97, 98, 99, 100, 101, 102, 103, 104]⟩, .string ⟨#[c]⟩] wx fun e w' => e = .returned (.bool true) ∧ wx = w' by
  have h := Any.strings_Contains_one Tryz.has69 tokB c wx
  refine Calls.mono h ?_
  rintro e w' ⟨rfl, rfl⟩
  refine ⟨?_, rfl⟩
  rw [← Lib.contains_iff_indexByte, tok_has]
  unfold tok at *
  simp [*])
 clear h
 go_enter Tryz.func62, Tryz.ntmps62
 go_wp2_with (go_at_call 93; (with_reducible refine (C.out _).mono ?_); rintro e w1 ⟨rfl, rfl⟩)
 go_ret
 exact ⟨rfl, rfl⟩
end Go.Proofs.YtehdemcfeoiecaaGreatDoor
