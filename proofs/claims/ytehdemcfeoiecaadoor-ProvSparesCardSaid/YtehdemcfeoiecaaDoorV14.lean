/- Contracts of chapter 9: a sum without a token: slices.Clone, IndexFunc and DeleteFunc at products. -/
import Derived.Test.YtehdemcfeoiecaaDoorV12
import Derived.Test.YtehdemcfeoiecaaDoorShelc
import Derived.Laws.EntriesVeiled
import Derived.Lib.LazyBuf
import Derived.Lib.SliceRun
import Derived.Lib.IndexAny
import Derived.Deep.DeepCutAuto
namespace Go.Proofs.YtehdemcfeoiecaaDoor
open Go.RowKit Go.Firn Go.Shelf Go.Maps Go.WideMaps

/-- The products that have a token go. -/
def delP (c : UInt8) (x : Key × Int) : Bool := x.1.contains c
def sparedL (c : UInt8) (L : SL) : SL := L.filter fun x => !delP c x

/-- The block g holds the products M, which may be written. -/
def PRow (w : World) (g : Nat) (M : SL) : Prop := ∀ i, i < M.length → w.cell? ⟨g, i * 2, none⟩ = some (.string (sx M i)) ∧ w.cell? ⟨g, i * 2 + 1, none⟩ = some (.int .i64 (sy M i)) ∧ w.frozen? ⟨g, i * 2, none⟩ = false ∧ w.frozen? ⟨g, i * 2 + 1, none⟩ = false
theorem PRow.gr {w w' : World} {g : Nat} {M : SL} (h : PRow w g M) (k : Gr w w') : PRow w' g M := fun i hi => by
  obtain ⟨h1, h2, h3, h4⟩ := h i hi
  exact ⟨k.cell h1, k.cell h2, (Below.frozen k (World.block_lt_of_cell? w _ h1)).trans h3, (Below.frozen k (World.block_lt_of_cell? w _ h2)).trans h4⟩
theorem PRow.set {w : World} {g : Nat} {M : SL} (h : PRow w g M) {i : Nat} (hi : i < M.length) (x : Key × Int) :
    PRow ((w.setCell ⟨g, i * 2, none⟩ (.string ⟨x.1.toArray⟩)).setCell ⟨g, i * 2 + 1, none⟩ (.int .i64 x.2)) g (M.set i x) := by
  intro j hj
  rw [List.length_set] at hj
  obtain ⟨h1, h2, h3, h4⟩ := h j hj
  obtain ⟨k1, k2, _, _⟩ := h i hi
  refine ⟨?_, ?_, by simpa using h3, by simpa using h4⟩
  · by_cases e : i = j
    · subst e
      have e1 : sx (M.set i x) i = ⟨x.1.toArray⟩ := by simp [sx, List.getD_eq_getElem?_getD, hi]
      rw [e1]
      exact cell_by (cell_near k1 _) (by omega) _
    · have e1 : sx (M.set i x) j = sx M j := by simp [sx, List.getD_eq_getElem?_getD, e]
      rw [e1]
      exact cell_by (cell_by h1 (by omega) _) (by omega) _
  · by_cases e : i = j
    · subst e
      have e1 : sy (M.set i x) i = x.2 := by simp [sy, List.getD_eq_getElem?_getD, hi]
      rw [e1]
      exact cell_near (cell_by k2 (by omega) _) _
    · have e1 : sy (M.set i x) j = sy M j := by simp [sy, List.getD_eq_getElem?_getD, e]
      rw [e1]
      exact cell_by (cell_by h2 (by omega) _) (by omega) _
theorem PRow.rd {w : World} {g : Nat} {M F : SL} (h : PRow w g M) (hl : F.length ≤ M.length) (ht : M.take F.length = F) : RdS w (some ⟨g, 0, none⟩) F.length (sx F) (sy F) := by
  refine .inr ⟨g, 0, rfl, fun i hi => ?_⟩
  obtain ⟨h1, h2, _, _⟩ := h i (by omega)
  have e1 : M[i]? = F[i]? := by
    conv => rhs; rw [← ht]
    rw [List.getElem?_take, if_pos hi]
  have e2 : sx M i = sx F i := by simp only [sx, List.getD_eq_getElem?_getD, e1]
  have e3 : sy M i = sy F i := by simp only [sy, List.getD_eq_getElem?_getD, e1]
  rw [Nat.zero_add]
  exact ⟨e2 ▸ h1, e3 ▸ h2⟩
theorem PRow.of_own {w0 w : World} {e : TypeId} {v : Value} {L : SL} (h : OwnS w0 e w v L) : (v = .slice none 0 0 ∧ L = []) ∨ ∃ g c, v = .slice (some ⟨g, 0, none⟩) L.length c ∧ L.length ≤ c ∧ c ≤ maxLen ∧ PRow w g L ∧ w0.heap.size ≤ g ∧ g < w.heap.size := by
  have h0 := h.1
  obtain ⟨hl, hv⟩ := h.1
  rcases hv with ⟨rfl, hz⟩ | ⟨g, cap, cur, rfl, hb, hg, hnc, hcm, hcs, htake⟩
  · exact .inl ⟨rfl, List.length_eq_zero_iff.1 hz⟩
  · refine .inr ⟨_, _, rfl, hnc, hcm, fun i hi => ?_, (h0.lt g rfl).1, (h0.lt g rfl).2⟩
    obtain ⟨p0, p1⟩ := pk_at L i hi
    have c0 := h0.cells (g := g) rfl _ _ p0
    have c1 := h0.cells (g := g) rfl _ _ p1
    rw [add_flat rfl] at c0 c1
    simp only [Nat.zero_add] at c0 c1
    exact ⟨c0, c1, h0.frozenAt _, h0.frozenAt _⟩

theorem cf72 (args : Array Value) (wz : World) : (callFunc 72 args).run Tryd.prog wz = .ok (.enter 72 args) wz := by kernel_rfl

/-- Whether a product has the token of a box. -/
theorem del_any (x : Key × Int) (c : UInt8) (bx : Nat) (w : World) (hb : w.cell? ⟨bx, 0, none⟩ = some (.string ⟨#[c]⟩)) :
    Calls Tryd.prog 72 #[.agg #[.string ⟨x.1.toArray⟩, .int .i64 x.2], .pointer (some ⟨bx, 0, none⟩)] w (RetB (delP c x) w) := by
  have C := Lib.hid (fun wx => show Calls Tryd.prog 69 #[.string ⟨x.1.toArray⟩, .string ⟨#[c]⟩] wx fun e w' => e = .returned (.bool (delP c x)) ∧ wx = w' by
    have h := Any.strings_Contains_one Tryd.has69 ⟨x.1.toArray⟩ c wx
    refine Calls.mono h ?_
    rintro e w' ⟨rfl, rfl⟩
    refine ⟨?_, rfl⟩
    unfold delP
    rw [Lib.contains_iff_indexByte])
  have hb2 := ((Gr.refl w).alloc (.cells #[.string ⟨x.1.toArray⟩, .int .i64 x.2] 34)).cell hb
  obtain ⟨z0, z1⟩ := box2 w ⟨x.1.toArray⟩ x.2 34
  generalize delP c x = d at *
  generalize (⟨x.1.toArray⟩ : ByteArray) = s at *
  generalize x.2 = m at *
  have hlt := Lib.hid hb
  clear hb
  go_enter Tryd.func72, Tryd.ntmps72
  go_wp2_with (go_at_call 69; (with_reducible refine (C.out _).mono ?_); rintro e w1 ⟨rfl, rfl⟩)
  go_ret
  exact ⟨rfl, (Gr.refl w).alloc _⟩

/-- The first that goes. -/
def RetIx (p : Nat → Bool) (n : Nat) (w : World) (e : Ending) (w' : World) : Prop := (∃ z : Int, e = .returned (.int .i64 z) ∧ ((z = -1 ∧ ∀ i, i < n → p i = false) ∨ ∃ k : Nat, k < n ∧ z = k ∧ p k = true ∧ ∀ i, i < k → p i = false)) ∧ Gr w w'

set_option maxHeartbeats 2000000 in
theorem index_any (a : Option Addr) (cp : Nat) (L : SL) (c : UInt8) (bx : Nat) (w : World) (hn : L.length ≤ 1000000) (hr : RdS w a L.length (sx L) (sy L)) (hb : w.cell? ⟨bx, 0, none⟩ = some (.string ⟨#[c]⟩)) :
    Calls Tryd.prog 95 #[.slice a L.length cp, .func (.func 72) #[] #[.pointer (some ⟨bx, 0, none⟩)]] w (RetIx (fun i => delP c ((sx L i).data.toList, sy L i)) L.length w) := by
  have HR := Lib.hid hr
  have HB := Lib.hid hb
  have hcf := cf72
  have H := Lib.hid (fun j wz (g : Gr w wz) => show Calls Tryd.prog 72 #[.agg #[.string (sx L j), .int .i64 (sy L j)], .pointer (some ⟨bx, 0, none⟩)] wz (RetB (delP c ((sx L j).data.toList, sy L j)) wz) from del_any ((sx L j).data.toList, sy L j) c bx wz (g.cell HB.out))
  clear hr hb
  generalize L.length = n at *
  generalize sx L = f at *
  generalize sy L = g at *
  go_enter Tryd.func95, Tryd.ntmps95
  go_wp2_with fail
  go_loopw [8] (fun i wr => ∃ k : Nat, k ≤ n ∧ i = .int .i64 k ∧ Hid (∀ i, i < k → delP c ((f i).data.toList, g i) = false) ∧ Gr w wr) (fun i _ => n - (intOf i).toNat)
  case atStart => exact ⟨0, Nat.zero_le _, rfl, Lib.hid (fun i hi => absurd hi (Nat.not_lt_zero i)), Gr.refl _⟩
  case round =>
    obtain ⟨k, hk, rfl, Hi, hg⟩ := hrel
    by_cases hlt : k < n
    · obtain ⟨b, o, rfl, hc⟩ := (HR.out.gr hg).at hlt
      obtain ⟨c1, c2⟩ := hc k hlt
      have i1 : (k : Int) < n := by omega
      have C := Lib.hid (H.out k wr hg)
      obtain ⟨d, hd⟩ : ∃ d, d = delP c ((f k).data.toList, g k) := ⟨_, rfl⟩
      rw [← hd] at C
      have HD := Lib.hid hd
      clear hc hlt hd
      generalize f k = x at C c1
      generalize g k = y at C c2
      cases d with
      | true =>
        go_wp2_with fail
        refine C.out.mono ?_
        rintro e w1 ⟨rfl, g1⟩
        clear c1 c2
        go_wp2_with fail
        go_ret
        exact ⟨⟨(k : Int), rfl, .inr ⟨k, by omega, rfl, HD.out.symm, Hi.out⟩⟩, hg.trans g1⟩
      | false =>
        go_wp2_with fail
        refine C.out.mono ?_
        rintro e w1 ⟨rfl, g1⟩
        clear c1 c2
        go_wp2_with fail
        go_roundw
        case rel => exact ⟨k + 1, by omega, by go_num, Lib.hid (fun i hi => by
          rcases Nat.lt_succ_iff_lt_or_eq.1 hi with h | rfl
          · exact Hi.out i h
          · exact HD.out.symm), hg.trans g1⟩
        case measure => simp [intOf]; omega
    · obtain rfl : k = n := by omega
      go_wp2_with fail
      go_ret
      exact ⟨⟨-1, rfl, .inl ⟨rfl, Hi.out⟩⟩, hg⟩

set_option maxHeartbeats 1000000 in
theorem clone_any (a : Option Addr) (n c : Nat) (f : Nat → ByteArray) (g : Nat → Int) (w : World) (hn : n ≤ 900000) (ha : SlA a n c) (hr : RdS w a n f g) :
    Calls Tryd.prog 71 #[.slice a n c] w (RetO w (ofS f g n)) := by
  have q22 : ∀ (w : World) (a : Option Addr) (n c n' c' : Nat), (binOp .eql 22 (.slice a n c) (.slice none n' c')).run Tryd.prog w = .ok (.bool a.isNone) w := fun w a n c n' c' => Lib.run_eql_slice_nil w _ _ a n c n' c' Tryd.underlying22
  rcases ha with ⟨rfl, rfl, rfl⟩ | ⟨ad, rfl⟩
  · go_enter Tryd.func71, Tryd.ntmps71
    go_wp2_with fail
    go_ret
    exact ⟨_, rfl, OwnS.nil w 34⟩
  · rcases hr with rfl | ⟨b, o, e, hc⟩
    · go_enter Tryd.func71, Tryd.ntmps71
      go_wp2_with (at_builtin; refine wpList_zero_prod rfl _ _ 22 34 rfl Tryd.underlying22 info34 _ [] rfl (OwnS.made (Gr.refl w) 34) ad c rfl (by simp) ?_; intro v1 w1 hown; have H1 := Lib.hid hown; clear hown)
      go_ret
      exact ⟨_, rfl, H1.out⟩
    · cases e
      have HR := Lib.hid hc
      clear hc
      go_enter Tryd.func71, Tryd.ntmps71
      go_wp2_with (at_builtin; refine wpList_cat_prod rfl _ _ 22 34 rfl Tryd.underlying22 info34 _ [] rfl (OwnS.made (Gr.refl w) 34) b o n c f g rfl (fun i hi => ⟨((Gr.refl w).alloc _).cell (HR.out i hi).1, ((Gr.refl w).alloc _).cell (HR.out i hi).2⟩) (by simp; omega) ?_; intro v1 w1 hown _; have H1 := Lib.hid hown; clear hown)
      go_ret
      exact ⟨_, rfl, by have := H1.out; rwa [List.nil_append] at this⟩
end Go.Proofs.YtehdemcfeoiecaaDoor
