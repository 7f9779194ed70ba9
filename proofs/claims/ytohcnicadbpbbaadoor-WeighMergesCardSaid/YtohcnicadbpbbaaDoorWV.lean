/- Contracts of chapter 7: slices.Values, slices.AppendSeq and slices.Collect at the first numbers of a row. -/
import Derived.Test.YtohcnicadbpbbaaDoorRap
import Derived.Test.YtohcnicadbpbbaaDoorWL
import Derived.RangeFuncBox
namespace Go.Firn
open Go.RowKit
theorem grows {w w' : World} (g : Gr w w') : w.grownBy w' none := ⟨g.os, g.tape, g.output, Gr.size g, fun k hk _ => Below.block g k hk⟩
theorem Gr.others {W W' : World} (h : Gr W W') : KeepsOthers W W' := ⟨h.size, fun k o hk _ => by
  have := Below.block h k (Array.getElem?_eq_some_iff.1 hk).1
  exact this.trans hk⟩
theorem _root_.Go.Boxed.gr {W W' : World} {B : Nat} {t : TypeId} {v : Value} (h : Boxed W B t v) (g : Gr W W') : Boxed W' B t v := h.kept (grows g) (by simp)
theorem ownsRow_gr {W W' : World} {base : Nat} {e : TypeId} {size : Nat} {v : Value} {k : Nat} {xs : List Value} (h : W.ownsRow base e size v k xs) (g : Gr W W') : W'.ownsRow base e size v k xs := h.kept (grows g) (by cases v.ownBlock <;> simp)
theorem kc_of_wx {X : Nat → Prop} {W0 W W' : World} (h : Wx X W0 W) (h' : Wx X W0 W') : Kc (fun k => k < W0.heap.size ∧ ¬ X k) W W' := fun p v hp e => by
  have b1 := h.block p.block hp.1 hp.2
  have b2 := h'.block p.block hp.1 hp.2
  unfold World.cell? at *
  rw [b2, ← b1]
  exact e
end Go.Firn
namespace Go.Proofs.YtohcnicadbpbbaaDoor
open Go.RowKit Go.Firn Go.Shelf
attribute [local go_sem] Oper.semAt_some
theorem wide_fn (f : FuncId) : Fence.wide.fn f = True := rfl
attribute [local simp] wide_fn

/-- A number, as it is handed to a round. -/
def encI (x : Int) : Array Value := #[.int .i64 x]
def lsI (X : Nat → Int) (k : Nat) : List Int := (List.range k).map X
theorem lsI_succ (X : Nat → Int) (k : Nat) : lsI X (k + 1) = lsI X k ++ [X k] := by unfold lsI; rw [List.range_succ, List.map_append]; rfl
theorem lsI_len (X : Nat → Int) (k : Nat) : (lsI X k).length = k := by simp [lsI]

set_option maxHeartbeats 1000000 in
set_option maxRecDepth 100000 in
theorem values1_seqP {K : Nat → Prop} (m : Nat) (hm : 1 ≤ m) (bs n c : Nat) (av : Option Addr) (X : Nat → Int) (w : World) (hn : n ≤ 1000) (hbs : w.cell? ⟨bs, 0, none⟩ = some (.slice av n c)) (hr : RdI w av n X) (hK : ∀ p : Addr, av = some p → 0 < n → K p.block) :
    SeqP Fence.wide m Tryd.prog 87 #[.pointer (some ⟨bs, 0, none⟩)] encI (fun pre _ => pre.length < 1000) (fun _ _ => True) (Kc K) (fun xs => xs = lsI X n) w := fun l J W hW hJ hY h0 => by
  have HB : W.cell? ⟨bs, 0, none⟩ = some (.slice av n c) := by
    rw [Below.cell hW (p := ⟨bs, 0, none⟩) (World.block_lt_of_cell? w _ hbs)]; exact hbs
  have HR := Lib.hid (hr.gr hW)
  have HK := Lib.hid hK
  have YY := Lib.hid hY
  have H0 := Lib.hid (show J (lsI X 0) W from h0)
  clear hr hbs hY hJ h0 hW hK
  refine callsIn_of_wp Tryd.func87 rfl trivial ?_ rfl
  simp only [Tryd.ntmps87, List.size_toArray, List.length_cons, List.length_nil, Nat.reduceAdd, Nat.reduceSub, Array.replicate_succ, Array.replicate_zero, List.push_toArray, List.append_toArray, List.nil_append, List.cons_append]
  gi_wp2
  clear HB
  gi_loopw [7] (fun s wr => ∃ k : Nat, k ≤ n ∧ s = .int .i64 k ∧ Hid (J (lsI X k) wr) ∧ Hid (Kc K W wr)) (fun s _ => n - (intOf s).toNat)
  case atStart => exact ⟨0, Nat.zero_le _, rfl, H0, Lib.hid (fun _ _ _ h => h)⟩
  case round =>
    obtain ⟨k, hk, rfl, hJp, hKc⟩ := hrel
    by_cases hlt : k < n
    · have i1 : (k : Int) < n := by omega
      obtain ⟨b, o, e, hc⟩ := HR.out.at hlt
      have kb : K b := HK.out _ e (by omega)
      have cx := hKc.out ⟨b, o + k, none⟩ _ kb (hc k hlt)
      subst e
      clear kb
      have E := Lib.hid (lsI_succ X k)
      have L := lsI_len X k
      obtain ⟨fn, tmps, assign, body, hy, hR⟩ := YY.out (lsI X k) (X k) wr (by omega) hJp.out trivial
      have hy' : (Instr.yield l #[.int .i64 (X k)]).run Tryd.prog wr = .ok (.round l fn tmps assign body) wr := hy
      have HRR := Lib.hid hR
      rw [← E.out] at HRR
      clear hy hR hc L E
      generalize X k = x at *
      gi_wp2
      refine HRR.out.mono ?_
      rintro e W' ⟨rfl, hJ', hk'⟩
      have J5 := Lib.hid hJ'
      have K5 := Lib.hid (hKc.out.trans hk')
      clear hJ' hk'
      gi_wp2
      go_roundw
      case rel => exact ⟨k + 1, hlt, by go_num, J5, K5⟩
      case measure => simp [intOf]; omega
    · have n1 : (n : Int) ≤ (k : Int) := by omega
      have P3 := Lib.hid (show lsI X k = lsI X n by rw [show k = n by omega])
      clear hlt
      gi_wp2
      go_end0
      exact ⟨⟨_, rfl⟩, lsI X k, P3.out, hJp.out⟩

/-- The caller's invariant: what came so far lies in a row of the call's own. -/
def Isq (b4 : Nat) (W0 : World) (pre : List Int) (W : World) : Prop :=
  (∃ v, Boxed W b4 22 v ∧ W.ownsRow W0.heap.size 3 1 v pre.length (pre.map (Value.int .i64))) ∧ Wx (fun k => k = b4) W0 W
theorem Isq.own (b4 : Nat) (W0 : World) : OwnFrom W0.heap.size (Isq b4 W0) := fun _ A B row hs hg hr => by
  obtain ⟨⟨v, hv, hrow⟩, h2⟩ := hs
  refine ⟨⟨v, hv.kept hg (fun e' => ?_), hrow.kept hg ?_⟩, h2.own hg (fun r e => (hr r e).1)⟩
  · obtain ⟨_, o, ho, hc⟩ := hr b4 e'.symm
    rw [show A.heap[b4]? = _ from hv] at ho; cases ho; cases hc
  · rcases hrow.2 with ⟨rfl, _⟩ | ⟨g, cap, cur, rfl, _, hgb, _⟩
    · exact .inl rfl
    · refine .inr fun e' => ?_
      obtain ⟨_, o, ho, hc⟩ := hr g (by simpa [Value.ownBlock] using e'.symm)
      rw [hgb] at ho; cases ho; cases hc
/-- The end of a round. -/
theorem seq_round {b4 : Nat} {W0 W w5 : World} {pre : List Int} {x : Int} {v v' : Value} {tmp : Obj} (hX : Wx (fun k => k = b4) W0 W) (hv : Boxed W b4 22 v) (hrow : W.ownsRow W0.heap.size 3 1 v pre.length (pre.map (Value.int .i64)))
    (h1 : w5.ownsRow W0.heap.size 3 1 v' (pre.length + 1) (pre.map (Value.int .i64) ++ [.int .i64 x])) (h2 : (W.alloc tmp).grownBy w5 v.ownBlock) {W' : World} (hW' : Gr (w5.setCell ⟨b4, 0, none⟩ v') W') :
    KeepsOthers W W' ∧ Kc (fun k => k < W0.heap.size ∧ ¬ k = b4) W W' ∧ Isq b4 W0 (pre ++ [x]) W' := by
  have hv5 : Boxed w5 b4 22 v := (hv.alloc tmp).kept h2 (hv.not_row (by decide) hrow)
  have hv6 := hv5.set v'
  have hr6 := h1.kept (grownBy_setCell' w5 b4 v') (.inr (hv5.not_row (by decide) h1).symm)
  have own : ∀ r, v.ownBlock = some r → W0.heap.size ≤ r := fun r er => by
    rcases hrow.2 with ⟨rfl, _⟩ | ⟨g, cap, cur, rfl, hb, _, _⟩
    · simp [Value.ownBlock] at er
    · obtain rfl : g = r := by simpa [Value.ownBlock] using er
      exact hb
  have hw : Wx (fun k => k = b4) W0 W' := ((((hX.trans (Wx.of_gr ((Gr.refl W).alloc tmp))).own h2 own).set rfl 0 v').trans (Wx.of_gr hW'))
  refine ⟨?_, kc_of_wx hX hw, ⟨v', hv6.gr hW', ?_⟩, hw⟩
  · refine ((((KeepsOthers.alloc W tmp)).trans (KeepsOthers.of_grownBy h2 fun j o ej hj => ?_)).trans (KeepsOthers.setCell _ _ _)).trans (Gr.others hW')
    rcases (hrow.alloc tmp).2 with ⟨rfl, _⟩ | ⟨g, cap, cur, rfl, _, hgb, _⟩
    · simp [Value.ownBlock] at ej
    · obtain rfl : g = j := by simpa [Value.ownBlock] using ej
      rw [hgb] at hj; cases hj; rfl
  · rw [List.length_append, List.map_append]
    exact ownsRow_gr hr6 hW'

theorem info_int3 : ∃ i, Tryd.prog.info? 3 = some i ∧ i.zero = some (.int .i64 0) ∧ i.size = 1 ∧ i.bytes = 8 := info_int Tryd.info3
theorem ownsRow_pat {w : World} {base k : Nat} {v : Value} {xs : List Value} (h : w.ownsRow base 3 1 v (k + 1) xs) : ∃ g c, v = .slice (some ⟨g, 0, none⟩) (k + 1) c := by
  rcases h.2 with ⟨_, h0⟩ | ⟨g, cap, _, rfl, _⟩
  · omega
  · exact ⟨g, cap, rfl⟩
theorem ownsRow_low {W : World} {base base' : Nat} {e : TypeId} {size : Nat} {v : Value} {k : Nat} {xs : List Value} (h : W.ownsRow base e size v k xs) (hb : base' ≤ base) : W.ownsRow base' e size v k xs := by
  refine ⟨h.1, ?_⟩
  rcases h.2 with h1 | ⟨g, cap, cur, h1, h2, h3⟩
  · exact .inl h1
  · exact .inr ⟨g, cap, cur, h1, Nat.le_trans hb h2, h3⟩
theorem ints_lsI (X : Nat → Int) (n : Nat) : (lsI X n).map (Value.int .i64) = ints n X := by unfold lsI ints; rw [List.map_map]; rfl

set_option maxHeartbeats 4000000 in
set_option maxRecDepth 100000 in
theorem AppendSeq_any (bs n c : Nat) (av : Option Addr) (X : Nat → Int) (w : World) (hn : n ≤ 1000) (hbs : w.cell? ⟨bs, 0, none⟩ = some (.slice av n c)) (hr : RdI w av n X) :
    Calls Tryd.prog 95 #[.slice none 0 0, .func (.func 87) #[] #[.pointer (some ⟨bs, 0, none⟩)]] w fun e w' => ∃ v, e = .returned v ∧ OwnI w 3 w' v n X := by
  have HB := Lib.hid hbs
  have HR := Lib.hid hr
  have lbs := World.block_lt_of_cell? w _ hbs
  simp only at lbs
  clear hbs hr
  refine (callsIn_wide (n := 3)).1 ?_
  refine callsIn_of_wp_marks Tryd.func95 rfl trivial ?_ rfl
  simp only [Tryd.ntmps95, List.size_toArray, List.length_cons, List.length_nil, Nat.reduceAdd, Nat.reduceSub, Array.replicate_succ, Array.replicate_zero, List.push_toArray, List.append_toArray, List.nil_append, List.cons_append]
  gi_wp2
  generalize hW0 : (w.alloc (.cells #[.slice none 0 0] 22)) = W0
  have S0 : W0.heap.size = w.heap.size + 1 := by rw [← hW0]; simp
  have G0 := Lib.hid (show Gr w W0 by rw [← hW0]; exact (Gr.refl w).alloc _)
  have X4 := Lib.hid (show Boxed W0 w.heap.size 22 (.slice none 0 0) by rw [← hW0]; exact Boxed.new w 22 _)
  clear hW0
  refine rangeFunc_memP rfl (by omega) (gf := 87) (lb := #[.pointer (some ⟨bs, 0, none⟩)]) rfl trivial (enters_of Tryd.func87 (by kernel_rfl) rfl)
    (values1_seqP (K := fun k => k < W0.heap.size ∧ ¬ k = w.heap.size) _ (by omega) bs n c av X W0 hn (G0.out.cell HB.out) (HR.out.gr G0.out) (fun p ep h0 => by
      obtain ⟨b, o, e, hc⟩ := HR.out.at h0
      rw [ep] at e
      cases e
      have := World.block_lt_of_cell? w _ (hc 0 h0)
      simp only at this ⊢
      omega))
    Kc.trans (fun W l o o' _ h hc _ => Kc.putObj W l o o' h hc) (fun x W l o o' hx h hc => trivial) (Below.refl _ _) (fun _ => rfl)
    (Isq w.heap.size W0) (Isq.own w.heap.size W0)
    ⟨⟨_, X4.out, World.ownsRow_nil W0 _ _ _⟩, Wx.refl _ _⟩
    (fun x => { tmps := #[.slice none 0 0, .func (.func 87) #[] #[.pointer (some ⟨bs, 0, none⟩)], .pointer (some ⟨w.heap.size, 0, none⟩), undef, .slice none 0 0, .int .i64 x, .func (.func 87) #[] #[.pointer (some ⟨bs, 0, none⟩)], .int .i64 x, undef, undef, undef, undef, undef], defers := [] }) ?assign ?body ?done
  case assign =>
    intro l x W K hK
    unfold encI
    gi_wp2
    exact hK
  case body =>
    rintro l pre x W hpl ⟨⟨v, hv, hrow⟩, hX⟩ _
    have WX := Lib.hid hX
    have HV := Lib.hid hv
    have HO := Lib.hid hrow
    have c0 := hv.cell
    obtain ⟨i0, hi, hz0, hz1, hz2⟩ := info_int3
    have HI := Lib.hid hi
    have hz := Lib.hid (show W0.heap.size ≤ (W.alloc (.cells #[.int .i64 x] 3)).heap.size by have := Wx.size hX; simp; omega)
    clear hv hrow hX hi
    gi_wp2_with (gi_at_builtin; refine wpListIn_append_own _ rfl _ _ 22 rfl W0.heap.size 3 i0 (.int .i64 0) 1 8 Tryd.underlying22 HI.out hz0 hz1 hz2 rfl (by decide) _ _ _ rfl (HO.out.alloc _) ⟨W.heap.size, 0, none⟩ 1 1 [.int .i64 x] rfl rfl (fun j u hu => by
        cases j with
        | zero => simp at hu; subst hu; exact cell_new1 _ _ _
        | succ j => simp at hu) (by simp [Value.oneCell']) (by unfold maxLen; omega) (by omega) hz.out ?_; intro v1 w5 r1 r2 _; have hv5 : Boxed w5 w.heap.size 22 v := (HV.out.alloc _).kept r2 (HV.out.not_row (by decide) HO.out); have RD := Lib.hid (fun W' hW' => seq_round WX.out HV.out HO.out r1 r2 (W' := W') hW'); obtain ⟨gq, capq, rfl⟩ := ownsRow_pat r1; have c5 := hv5.cell; have f5 := hv5.frozen; clear r1 r2 hv5)
    exact RD.out _ (Gr.refl _)
  case done =>
    rintro D xs W hD hxs ⟨⟨v, hv, hrow⟩, hX⟩ hK
    rw [hxs, ints_lsI, lsI_len] at hrow
    have c4 := hv.cell
    have GW := Lib.hid (hX.gr G0.out (fun k hk => by omega))
    have HO := Lib.hid hrow
    have e1 := hK
    have HK := Lib.hid hK
    clear hv hrow hX hxs hK
    gi_wp2
    refine ⟨by simp, .inl ⟨_, _, rfl, run_takeDeferred e1, ?_⟩⟩
    have gp := grownBy_putObj' W D (.deferred none)
    refine ⟨v, by simp [results, Tryd.f95, go_sem], v, rfl, ?_, GW.out.grown gp (fun k er => by cases er; omega)⟩
    have hr := HO.out.kept gp (by
      rcases HO.out.2 with ⟨rfl, _⟩ | ⟨g, cap, cur, rfl, _, hgb, _⟩
      · exact .inl rfl
      · refine .inr fun e' => ?_
        obtain rfl : D = g := by simpa [Value.ownBlock] using e'.symm
        rw [HK.out] at hgb; cases hgb)
    exact ownsRow_low hr (by omega)

end Go.Proofs.YtohcnicadbpbbaaDoor
