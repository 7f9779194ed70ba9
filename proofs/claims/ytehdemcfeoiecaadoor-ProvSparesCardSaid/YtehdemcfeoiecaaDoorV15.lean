/- Contracts of chapter 9: slices.DeleteFunc at products; a sum without a token. -/
import Derived.Test.YtehdemcfeoiecaaDoorV14
namespace Go.Proofs.YtehdemcfeoiecaaDoor
open Go.RowKit Go.Firn Go.Shelf Go.Maps Go.WideMaps

theorem _root_.Go.Firn.Wr.setCells {b : Nat} {w : World} (vs : List Value) : ∀ (o : Nat) {w1 : World}, Wr b w w1 → Wr b w (w1.setCells b o vs) := by
  induction vs with
  | nil => intro o w1 h; exact h
  | cons v r ih => intro o w1 h; exact ih (o + 1) (h.set o v)
theorem clear_prod (w : World) (b o n c : Nat) (hn : 0 < n) (hc : ∀ j, j < n * 2 → (w.cell? ⟨b, o + j, none⟩).isSome = true) (hf : ∀ j, j < n * 2 → w.frozen? ⟨b, o + j, none⟩ = false) :
    ∃ vs : List Value, ∀ ty, (Builtin.clear_ #[22] ty #[.slice (some ⟨b, o, none⟩) n c]).run Tryd.prog w = .ok (.tuple #[]) (w.setCells b o vs) := by
  have hv : (zeroValue 34).run Tryd.prog w = .ok (.agg #[.string ⟨#[]⟩, .int .i64 0]) w := by kernel_rfl
  obtain ⟨vs, hvs⟩ : ∃ vs, (Builtin.zeroCells (Value.agg #[.string ⟨#[]⟩, .int .i64 0]).cells n).toList = vs := ⟨_, rfl⟩
  have hz : (Value.agg #[.string ⟨#[]⟩, .int .i64 0]).cells = #[.string ⟨#[]⟩, .int .i64 0] := rfl
  have hl : vs.length = n * 2 := by rw [← hvs, hz]; simp [Builtin.zeroCells]
  have h1 : ∀ v ∈ vs, v.oneCell' = true := by
    intro v hv
    rw [← hvs, hz] at hv
    simp only [Builtin.zeroCells, Array.toList_map, List.mem_map] at hv
    obtain ⟨i, _, rfl⟩ := hv
    show (#[Value.string ⟨#[]⟩, Value.int .i64 0][i % 2]!).oneCell' = true
    rcases Nat.mod_two_eq_zero_or_one i with h | h <;> rw [h] <;> rfl
  have hst := run_storeCells_cells (P := Tryd.prog) b o vs 0 w (by simpa [hl] using hc) (by simpa [hl] using hf) h1
  simp only [Nat.add_zero] at hst
  obtain ⟨m, rfl⟩ : ∃ m, n = m + 1 := ⟨n - 1, by omega⟩
  exact ⟨vs, fun ty => by simp [Builtin.clear_, run_underlying Tryd.underlying22, hv, hvs, hst]⟩

theorem spared_app (c : UInt8) (A B : SL) : sparedL c (A ++ B) = sparedL c A ++ sparedL c B := by simp [sparedL]
theorem spared_none {c : UInt8} {A : SL} (h : ∀ x ∈ A, delP c x = false) : sparedL c A = A := by
  unfold sparedL
  rw [List.filter_eq_self]
  intro x hx
  rw [h x hx]
  rfl
theorem spared_le (c : UInt8) (A : SL) : (sparedL c A).length ≤ A.length := List.length_filter_le _ _
theorem get_sx {L : SL} {k : Nat} (h : k < L.length) : L[k]? = some ((sx L k).data.toList, sy L k) := by simp [sx, sy, List.getD_eq_getElem?_getD, List.getElem?_eq_getElem h]
theorem take_next {L : SL} {k : Nat} (h : k < L.length) : L.take (k + 1) = L.take k ++ [((sx L k).data.toList, sy L k)] := by
  rw [List.take_add_one, get_sx h]
  rfl
theorem spared_skip {c : UInt8} {L : SL} {k : Nat} (h : k < L.length) (hd : delP c ((sx L k).data.toList, sy L k) = true) : sparedL c (L.take (k + 1)) = sparedL c (L.take k) := by
  rw [take_next h, spared_app]
  simp [sparedL, hd]
theorem spared_keep {c : UInt8} {L : SL} {k : Nat} (h : k < L.length) (hd : delP c ((sx L k).data.toList, sy L k) = false) : sparedL c (L.take (k + 1)) = sparedL c (L.take k) ++ [((sx L k).data.toList, sy L k)] := by
  rw [take_next h, spared_app]
  simp [sparedL, hd]
theorem drop_get {M L : SL} {j k : Nat} (h : M.drop j = L.drop j) (hk : j ≤ k) : sx M k = sx L k ∧ sy M k = sy L k := by
  have e : M[k]? = L[k]? := by
    have := congrArg (fun A : SL => A[k - j]?) h
    simp only [List.getElem?_drop] at this
    rwa [show j + (k - j) = k by omega] at this
  exact ⟨by simp only [sx, List.getD_eq_getElem?_getD, e], by simp only [sy, List.getD_eq_getElem?_getD, e]⟩
theorem set_take {M : SL} {i : Nat} (h : i < M.length) (x : Key × Int) : (M.set i x).take (i + 1) = M.take i ++ [x] := by
  rw [List.take_add_one, List.take_set_of_le (Nat.le_refl i), List.getElem?_set_self h]
  rfl
theorem set_drop {M L : SL} {i j : Nat} (h : M.drop j = L.drop j) (hi : i < j) (x : Key × Int) : (M.set i x).drop (j + 1) = L.drop (j + 1) := by
  rw [List.drop_set_of_lt (by omega)]
  have := congrArg (List.drop 1) h
  rwa [List.drop_drop, List.drop_drop] at this
theorem drop_more {M L : SL} {j : Nat} (h : M.drop j = L.drop j) : M.drop (j + 1) = L.drop (j + 1) := by
  have := congrArg (List.drop 1) h
  rwa [List.drop_drop, List.drop_drop] at this

/-- What is left of a row. -/
def RetDel (g cp : Nat) (F : SL) (w : World) (e : Ending) (w' : World) : Prop := e = .returned (.slice (some ⟨g, 0, none⟩) F.length cp) ∧ Wr g w w' ∧ RdS w' (some ⟨g, 0, none⟩) F.length (sx F) (sy F)

set_option maxRecDepth 100000 in
set_option maxHeartbeats 8000000 in
theorem delete_any (g cp : Nat) (L : SL) (c : UInt8) (bx : Nat) (w : World) (hn : L.length ≤ 900000) (hcp : L.length ≤ cp) (hcm : cp ≤ 9223372036854775807) (hP : PRow w g L) (hb : w.cell? ⟨bx, 0, none⟩ = some (.string ⟨#[c]⟩)) (hne : bx ≠ g) (hg : g < w.heap.size) :
    Calls Tryd.prog 70 #[.slice (some ⟨g, 0, none⟩) L.length cp, .func (.func 72) #[] #[.pointer (some ⟨bx, 0, none⟩)]] w (RetDel g cp (sparedL c L) w) := by
  have CI := Lib.hid (index_any (some ⟨g, 0, none⟩) cp L c bx w (by omega) (hP.rd (Nat.le_refl _) (List.take_length)) hb)
  have HP := Lib.hid hP
  have HB := Lib.hid hb
  have HN := Lib.hid hne
  have HGs := Lib.hid hg
  have hcf := cf72
  have H := Lib.hid (fun (x : ByteArray) (y : Int) wz (k : wz.cell? ⟨bx, 0, none⟩ = some (.string ⟨#[c]⟩)) => show Calls Tryd.prog 72 #[.agg #[.string x, .int .i64 y], .pointer (some ⟨bx, 0, none⟩)] wz (RetB (delP c (x.data.toList, y)) wz) from del_any (x.data.toList, y) c bx wz k)
  have HC := Lib.hid (And.intro hn (And.intro hcp hcm))
  clear hP hb hne hg hn hcp hcm
  go_enter Tryd.func70, Tryd.ntmps70
  go_upto_region 2 with (go_at_call 95; (with_reducible refine CI.out.mono ?_); rintro e w1 ⟨⟨z, rfl, hz⟩, g1⟩; have HZ := Lib.hid hz; have G1 := Lib.hid g1; clear hz g1 CI)
  rcases HZ.out with ⟨rfl, ha⟩ | ⟨k, hk, rfl, hd, hbf⟩
  · have HA := Lib.hid ha
    clear ha HZ
    go_wp2_with fail
    go_ret
    have e : sparedL c L = L := spared_none fun x hx => by
      obtain ⟨i, hi, rfl⟩ := List.getElem_of_mem hx
      have := HA.out i hi
      have e := get_sx hi
      rw [List.getElem?_eq_getElem hi] at e
      rw [Option.some.inj e]
      exact this
    rw [e]
    exact ⟨rfl, Wr.of_gr G1.out, (HP.out.gr G1.out).rd (Nat.le_refl _) List.take_length⟩
  · have HK := Lib.hid hk
    have HD := Lib.hid hd
    have HF := Lib.hid (show sparedL c (L.take k) = L.take k from spared_none fun x hx => by
      obtain ⟨i, hi, rfl⟩ := List.getElem_of_mem hx
      have hi' : i < k := by rw [List.length_take] at hi; omega
      have := hbf i hi'
      have e := get_sx (L := L) (k := i) (by omega)
      rw [List.getElem?_eq_getElem (by omega)] at e
      rw [List.getElem_take, Option.some.inj e]
      exact this)
    clear hd hbf HZ
    have i0 : (decide ((k : Int) = -1)) = false := by simp
    have i1 : IntKind.i64.wrap ((k : Int) + 1) = ((k + 1 : Nat) : Int) := by rw [IntWalk.i64_in _ (by have := HC.out; omega)]; omega
    clear hk
    go_wp2_with fail
    go_loopw [5, 6] (fun s5 s6 wr => ∃ (i j : Nat) (M : SL), s5 = .int .i64 i ∧ s6 = .int .i64 j ∧ Hid (i < j ∧ j ≤ L.length) ∧ Hid (M.length = L.length) ∧ Hid (M.take i = sparedL c (L.take j)) ∧ Hid (M.drop j = L.drop j) ∧ Hid (PRow wr g M) ∧ Hid (Wr g w wr)) (fun _ s6 _ => L.length - (intOf s6).toNat)
    case atStart => exact ⟨k, k + 1, L, rfl, by go_num, Lib.hid ⟨by omega, HK.out⟩, Lib.hid rfl, Lib.hid (by rw [spared_skip HK.out HD.out, HF.out]), Lib.hid rfl, Lib.hid (HP.out.gr G1.out), Lib.hid (Wr.of_gr G1.out)⟩
    case round =>
      obtain ⟨i, j, M, rfl, rfl, Hij, HM, HT, HDr, HR, HW⟩ := hrel
      clear i0 i1
      by_cases hlt : j < L.length
      · have i1 : (j : Int) < (L.length : Int) := by omega
        have cj := HR.out j (by rw [HM.out]; exact hlt)
        have ci := HR.out i (by rw [HM.out]; have := Hij.out; omega)
        obtain ⟨e1, e2⟩ := drop_get HDr.out (Nat.le_refl j)
        rw [e1, e2] at cj
        obtain ⟨cj0, cj1, _, _⟩ := cj
        obtain ⟨ci0, ci1, fi0, fi1⟩ := ci
        obtain ⟨d, hd⟩ : ∃ d, d = delP c ((sx L j).data.toList, sy L j) := ⟨_, rfl⟩
        have HDj := Lib.hid hd
        have hb2 := HW.out.cell HB.out HN.out
        have HTk := Lib.hid (fun h => spared_keep (c := c) (L := L) (k := j) hlt h)
        have HTs := Lib.hid (fun h => spared_skip (c := c) (L := L) (k := j) hlt h)
        have HRs := Lib.hid (fun W (k : PRow W g M) => k.set (i := i) (by rw [HM.out]; have := Hij.out; omega) ((sx L j).data.toList, sy L j))
        clear hd e1 e2
        have i2 : (i : Int) < (L.length : Int) := by have := Hij.out; omega
        have HLj := Lib.hid hlt
        have w1 : IntKind.i64.wrap ((i : Int) + 1) = ((i + 1 : Nat) : Int) := by rw [IntWalk.i64_in _ (by have := HC.out; omega)]; omega
        have w2 : IntKind.i64.wrap ((j : Int) + 1) = ((j + 1 : Nat) : Int) := by rw [IntWalk.i64_in _ (by have := HC.out; omega)]; omega
        clear hlt
        generalize sx L j = x at *
        generalize sy L j = y at *
        obtain ⟨z0, z1⟩ := box2 wr x y 34
        have gA : Gr wr (wr.alloc (.cells #[.string x, .int .i64 y] 34)) := (Gr.refl wr).alloc _
        have Cc := Lib.hid (H.out x y (wr.alloc (.cells #[.string x, .int .i64 y] 34)) (gA.cell hb2))
        rw [← HDj.out] at Cc
        have HZ0 := Lib.hid (And.intro z0 z1)
        have HGA := Lib.hid gA
        have HRA := Lib.hid (HR.out.gr gA)
        clear hb2 gA
        cases d with
        | true =>
          have HT2 := Lib.hid ((HTs.out HDj.out.symm).symm ▸ HT.out : M.take i = sparedL c (L.take (j + 1)))
          clear z0 z1 ci0 ci1 fi0 fi1
          go_wp2_with fail
          refine Cc.out.mono ?_
          rintro e w3 ⟨rfl, g3⟩
          have G3 := Lib.hid (HGA.out.trans g3)
          clear g3
          go_wp2_with fail
          go_roundw
          case rel => (repeat apply Exists.intro); exact ⟨⟨i, j + 1, M, rfl, by go_num, Lib.hid (by have := Hij.out; have := HLj.out; omega), HM, HT2, Lib.hid (drop_more HDr.out), Lib.hid (HR.out.gr G3.out), Lib.hid (HW.out.trans (Wr.of_gr G3.out))⟩, rfl⟩
          case measure => have := HLj.out; simp [intOf]; omega
        | false =>
          have HT2 := Lib.hid (show (M.set i (x.data.toList, y)).take (i + 1) = sparedL c (L.take (j + 1)) by rw [HTk.out HDj.out.symm, set_take (by rw [HM.out]; have := Hij.out; have := HLj.out; omega), HT.out])
          clear z0 z1 ci0 ci1 fi0 fi1
          go_wp2_with fail
          refine Cc.out.mono ?_
          rintro e w3 ⟨rfl, g3⟩
          have G3 := Lib.hid (HGA.out.trans g3)
          have ci := (HR.out.gr G3.out) i (by rw [HM.out]; have := Hij.out; have := HLj.out; omega)
          obtain ⟨ci0, ci1, fi0, fi1⟩ := ci
          have z0 := g3.cell HZ0.out.1
          have z1 := g3.cell HZ0.out.2
          have HPs := Lib.hid (show PRow ((w3.setCell ⟨g, i * 2, none⟩ (.string x)).setCell ⟨g, i * 2 + 1, none⟩ (.int .i64 y)) g (M.set i (x.data.toList, y)) from HRs.out w3 (HR.out.gr G3.out))
          have HWs := Lib.hid (((HW.out.trans (Wr.of_gr G3.out)).set (i * 2) (.string x)).set (i * 2 + 1) (.int .i64 y))
          have ci1' := cell_by (k := i * 2) ci1 (by omega) (.string x)
          clear g3 HRs HRA HGA HZ0
          go_wp2_with fail
          go_roundw
          case rel => (repeat apply Exists.intro); exact ⟨⟨i + 1, j + 1, M.set i (x.data.toList, y), by go_num, by go_num, Lib.hid (by have := Hij.out; have := HLj.out; omega), Lib.hid (by rw [List.length_set]; exact HM.out), HT2, Lib.hid (set_drop HDr.out Hij.out.1 _), HPs, HWs⟩, rfl⟩
          case measure => have := HLj.out; simp [intOf]; omega
      · obtain rfl : j = L.length := by have := Hij.out; omega
        have i1 : ¬ (L.length : Int) < (L.length : Int) := by omega
        have HF2 := Lib.hid (show M.take i = sparedL c L by rw [HT.out, List.take_length])
        have HL2 := Lib.hid (show (sparedL c L).length = i by rw [← HF2.out, List.length_take, HM.out]; have := Hij.out; omega)
        obtain ⟨vs, hvs⟩ := clear_prod wr g (i * 2) (L.length - i) (cp - i) (by have := Hij.out; omega) (fun q hq => by
          have := HR.out (i + q / 2) (by rw [HM.out]; omega)
          rcases Nat.mod_two_eq_zero_or_one q with h | h
          · rw [show i * 2 + q = (i + q / 2) * 2 by omega, this.1]; rfl
          · rw [show i * 2 + q = (i + q / 2) * 2 + 1 by omega, this.2.1]; rfl) (fun q hq => by
          have := HR.out (i + q / 2) (by rw [HM.out]; omega)
          rcases Nat.mod_two_eq_zero_or_one q with h | h
          · rw [show i * 2 + q = (i + q / 2) * 2 by omega]; exact this.2.2.1
          · rw [show i * 2 + q = (i + q / 2) * 2 + 1 by omega]; exact this.2.2.2)
        have i2 : (i : Int) ≤ (L.length : Int) := by have := Hij.out; omega
        have i3 : (i : Int) ≤ (cp : Int) := by have := Hij.out; have := HC.out; omega
        have i4 : (L.length : Int) ≤ (cp : Int) := by have := HC.out; omega
        have i5 : ¬ cp = i := by have := Hij.out; have := HC.out; omega
        have HRd := Lib.hid (show RdS (wr.setCells g (i * 2) vs) (some ⟨g, 0, none⟩) (sparedL c L).length (sx (sparedL c L)) (sy (sparedL c L)) by
          rcases HR.out.rd (F := sparedL c L) (by rw [HL2.out, HM.out]; have := Hij.out; omega) (by rw [HL2.out]; exact HF2.out) with h | ⟨b, o, e, h⟩
          · exact .inl h
          · cases e
            refine .inr ⟨g, 0, rfl, fun q hq => ?_⟩
            rw [HL2.out] at hq
            obtain ⟨h1, h2⟩ := h q (by rw [HL2.out]; exact hq)
            rw [World.cell?_setCells_out, World.cell?_setCells_out]
            · exact ⟨h1, h2⟩
            · intro _ _; left; show 0 + q * 2 + 1 < i * 2; omega
            · intro _ _; left; show 0 + q * 2 < i * 2; omega)
        have HWs := Lib.hid (HW.out.setCells vs (i * 2))
        go_wp2_with fail
        go_ret
        exact ⟨by rw [HL2.out]; rfl, HWs.out, HRd.out⟩
end Go.Proofs.YtehdemcfeoiecaaDoor
