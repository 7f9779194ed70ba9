/- Contracts of chapter 5: the median of the slopes, of the program. -/
import Derived.Test.YtbhndfnfohoidaaW42
import Derived.Test.YtbhndfnfohoidaaW22
import Derived.Test.YtbhndfnfohoidaaW19
import Derived.Test.YtbhndfnfohoidaaRhm
import Derived.Test.YtbhndfnfohoidaaW44
import Derived.RangeFuncBox
namespace Go.Firn
open Go.RowKit
theorem grows {w w' : World} (g : Gr w w') : w.grownBy w' none := ⟨g.os, g.tape, g.output, Gr.size g, fun k hk _ => Below.block g k hk⟩
/-- append(v, m) inside a fence: the row with one pair more. -/
theorem wpIn_app_pair {F : Fence} {n : Nat} {P : Program} {o : Oper} {a : Act} {K : Act → World → Prop} {Q : Exit → Act → World → Prop} (s x : Operand) (t e : TypeId)
    (ho : o.op = .call { callee := .builtin .append, args := #[s, x], argTypes := #[t, t] })
    (ht : P.underlying t = some (.slice e)) (hinfo : (P.info? e).map (fun i => (i.zero, i.size, i.bytes)) = some (some (.agg #[.int .i64 0, .int .i64 0]), 2, 16))
    {base : Nat} {w : World} (v : Value) (ms : List (Int × Int)) (hs : a.eval s = v) (hown : w.ownsRow base e 2 v ms.length (pm ms)) (hb : base ≤ w.heap.size)
    (g : Nat) (p q : Int) (hx : a.eval x = .slice (some ⟨g, 0, none⟩) 1 1) (hg : w.cell? ⟨g, 0, none⟩ = some (.int .i64 p) ∧ w.cell? ⟨g, 1, none⟩ = some (.int .i64 q)) (hk : ms.length < 1000000000)
    (h : ∀ v' w', w'.ownsRow base e 2 v' (ms.length + 1) (pm (ms ++ [(p, q)])) → w.grownBy w' v.ownBlock → K (a.put o.dst v') w') : o.wpIn F n P a w K Q := by
  obtain ⟨i0, hi, hz0, hz1, hz2⟩ := info_pair hinfo
  obtain ⟨v', w', hrun, r1, r2, _⟩ := run_append_own (P := P) w base t o.type e i0 _ 2 16 ht hi hz0 hz1 hz2 rfl (by decide) v ms.length (pm ms) hown ⟨g, 0, none⟩ 1 1 [.int .i64 p, .int .i64 q] rfl (fun j u hu => by
    rw [add_flat rfl]
    match j, hu with
    | 0, hu => simp at hu; subst hu; exact hg.1
    | 1, hu => simp at hu; subst hu; exact hg.2
    | j + 2, hu => simp at hu) (by simp [Value.oneCell']) (by unfold maxLen; omega) (by omega) hb
  unfold Oper.wpIn
  refine ⟨?_, ?_⟩
  · simp [Oper.about, ho, resolve, Target.leads, Sem.run_pure]
  · rw [Oper.semAt_plain F _ _ (by rw [ho]; intro c hc'; cases hc')]
    simp [execOp, ho, resolve, invoke, builtin, hs, hx, hrun, Result.andThen]
    refine h v' w' ?_ r2
    have e1 : pm ms ++ [.int .i64 p, .int .i64 q] = pm (ms ++ [(p, q)]) := by rw [pm_append]; rfl
    rw [e1] at r1
    exact r1
theorem _root_.Go.Boxed.gr {W W' : World} {B : Nat} {t : TypeId} {v : Value} (h : Boxed W B t v) (g : Gr W W') : Boxed W' B t v := h.kept (grows g) (by simp)
theorem ownsRow_gr {W W' : World} {base : Nat} {e : TypeId} {size : Nat} {v : Value} {k : Nat} {xs : List Value} (h : W.ownsRow base e size v k xs) (g : Gr W W') : W'.ownsRow base e size v k xs := h.kept (grows g) (by cases v.ownBlock <;> simp)
theorem kc_of_wx {X : Nat → Prop} {W0 W W' : World} (h : Wx X W0 W) (h' : Wx X W0 W') : Kc (fun k => k < W0.heap.size ∧ ¬ X k) W W' := fun p v hp e => by
  have b1 := h.block p.block hp.1 hp.2
  have b2 := h'.block p.block hp.1 hp.2
  unfold World.cell? at *
  rw [b2, ← b1]
  exact e
end Go.Firn
namespace Go.Proofs.Ytbhndfnfohoidaa
open Go.RowKit Go.Firn Go.Shelf
attribute [local go_sem] Oper.semAt_some
attribute [local simp] wide_fn

/-- The caller's invariant: the slopes that came so far lie in a row of the call's own. -/
def Isl (n : Nat) (X Y : Nat → Int) (b4 : Nat) (W0 : World) (pre : List (Nat × Nat)) (W : World) : Prop :=
  (∃ v, Boxed W b4 38 v ∧ W.ownsRow W0.heap.size 27 2 v (sls X Y pre).length (pm (sls X Y pre))) ∧ Wx (fun k => k = b4) W0 W ∧ ∀ q ∈ pre, IsPr n X q
theorem Isl.own (n : Nat) (X Y : Nat → Int) (b4 : Nat) (W0 : World) : OwnFrom W0.heap.size (Isl n X Y b4 W0) := fun _ A B row hs hg hr => by
  obtain ⟨⟨v, hv, hrow⟩, h2, h3⟩ := hs
  refine ⟨⟨v, hv.kept hg (fun e' => ?_), hrow.kept hg ?_⟩, h2.own hg (fun r e => (hr r e).1), h3⟩
  · obtain ⟨_, o, ho, hc⟩ := hr b4 e'.symm
    rw [show A.heap[b4]? = _ from hv] at ho; cases ho; cases hc
  · rcases hrow.2 with ⟨rfl, _⟩ | ⟨g, cap, cur, rfl, _, hgb, _⟩
    · exact .inl rfl
    · refine .inr fun e' => ?_
      obtain ⟨_, o, ho, hc⟩ := hr g (by simpa [Value.ownBlock] using e'.symm)
      rw [hgb] at ho; cases ho; cases hc
/-- The end of a round. -/
theorem slope_round {n b4 : Nat} {X Y : Nat → Int} {W0 W w4 w5 : World} {pre : List (Nat × Nat)} {q : Nat × Nat} {v v' : Value} {tmp : Obj} (hX : Wx (fun k => k = b4) W0 W) (hl : ∀ r ∈ pre, IsPr n X r) (g4 : Gr W w4) (hq : IsPr n X q)
    (hv : Boxed W b4 38 v) (hrow : W.ownsRow W0.heap.size 27 2 v (sls X Y pre).length (pm (sls X Y pre)))
    (h1 : w5.ownsRow W0.heap.size 27 2 v' ((sls X Y pre).length + 1) (pm (sls X Y pre ++ [slp X Y q]))) (h2 : (w4.alloc tmp).grownBy w5 v.ownBlock) {W' : World} (hW' : Gr (w5.setCell ⟨b4, 0, none⟩ v') W') :
    KeepsOthers W W' ∧ Kc (fun k => k < W0.heap.size ∧ ¬ k = b4) W W' ∧ Isl n X Y b4 W0 (pre ++ [q]) W' := by
  have hv4 := hv.gr g4
  have hr4 := ownsRow_gr hrow g4
  have hv5 : Boxed w5 b4 38 v := (hv4.alloc tmp).kept h2 (hv4.not_row (by decide) hr4)
  have hv6 := hv5.set v'
  have hr6 := h1.kept (grownBy_setCell' w5 b4 v') (.inr (hv5.not_row (by decide) h1).symm)
  have own : ∀ r, v.ownBlock = some r → W0.heap.size ≤ r := fun r er => by
    rcases hrow.2 with ⟨rfl, _⟩ | ⟨g, cap, cur, rfl, hb, _, _⟩
    · simp [Value.ownBlock] at er
    · obtain rfl : g = r := by simpa [Value.ownBlock] using er
      exact hb
  have hw : Wx (fun k => k = b4) W0 W' := ((((hX.trans (Wx.of_gr (g4.alloc tmp))).own h2 own).set rfl 0 v').trans (Wx.of_gr hW'))
  refine ⟨?_, kc_of_wx hX hw, ⟨v', hv6.gr hW', ?_⟩, hw, fun r hr => ?_⟩
  · refine ((((Gr.others g4).trans (KeepsOthers.alloc w4 tmp)).trans (KeepsOthers.of_grownBy h2 fun j o ej hj => ?_)).trans (KeepsOthers.setCell _ _ _)).trans (Gr.others hW')
    rcases (hr4.alloc tmp).2 with ⟨rfl, _⟩ | ⟨g, cap, cur, rfl, _, hgb, _⟩
    · simp [Value.ownBlock] at ej
    · obtain rfl : g = j := by simpa [Value.ownBlock] using ej
      rw [hgb] at hj; cases hj; rfl
  · have e : sls X Y (pre ++ [q]) = sls X Y pre ++ [slp X Y q] := by unfold sls; rw [List.map_append]; rfl
    rw [e, List.length_append]
    exact ownsRow_gr hr6 hW'
  · rcases List.mem_append.1 hr with hr | hr
    · exact hl r hr
    · obtain rfl := List.mem_singleton.1 hr
      exact hq

theorem slope_end {b2 D : Nat} {w W W1 W' : World} {A B : Int} (hb2 : w.heap.size ≤ b2) (hD : w.heap.size ≤ D) (hD2 : D ≠ b2) (g : Gr w W) (Bx : Box2 W b2 0 0) (hK : W.heap[D]? = some (.deferred (some [])))
    (e1 : W1 = (W.setCell ⟨b2, 0, none⟩ (.int .i64 A)).setCell ⟨b2, 1, none⟩ (.int .i64 B)) (e : W' = W1.putObj D (.deferred none)) :
    W1.heap[D]? = some (.deferred (some [])) ∧ Box2 W' b2 A B ∧ Gr w W' := by
  have hK1 : W1.heap[D]? = some (.deferred (some [])) := by
    rw [e1, Below.heap_setCell _ _ _ _ hD2, Below.heap_setCell _ _ _ _ hD2]; exact hK
  have B1 : Box2 W1 b2 A B := by rw [e1]; exact Box2.put Bx
  have G1 : Gr w W1 := by rw [e1]; exact (g.setAt hb2 _).setAt hb2 _
  have gp := grownBy_putObj' W1 D (.deferred none)
  have kp : ∀ r, some D = some r → ∃ o : Obj, W1.heap[r]? = some o ∧ o.isCells = false := fun r er => by cases er; exact ⟨_, hK1, rfl⟩
  rw [← e] at gp
  exact ⟨hK1, Box2.own B1 gp kp, G1.grown gp (fun k er => by cases er; exact hD)⟩

theorem Slope_none (a : Option Addr) (n c : Nat) (X Y : Nat → Int) (w : World) (hn : n ≤ 1000) (hr : RdM w a n X Y) (hv : vP n X Y = false) :
    Calls Try.prog 50 #[.slice a n c] w (fun e w' => e = .returned (.tuple #[.agg #[.int .i64 0, .int .i64 0], .int .i64 50]) ∧ Gr w w') := by
  obtain ⟨W0, hW0⟩ : ∃ W0, ((w.alloc (.cells #[.slice a n c] 22)).alloc (.cells #[.int .i64 0, .int .i64 0] 27)) = W0 := ⟨_, rfl⟩
  have G0 := Lib.hid (show Gr w W0 by rw [← hW0]; exact ((Gr.refl w).alloc _).alloc _)
  have B2 := Lib.hid (show Box2 W0 (w.heap.size + 1) 0 0 by rw [← hW0]; exact Box2.new (by simp))
  have z1 : W0.cell? ⟨w.heap.size, 0, none⟩ = some (.slice a n c) := by rw [← hW0]; exact ((Gr.refl _).alloc _).fresh' rfl rfl |>.1
  have CV := Lib.hid (Valid_any a n c X Y W0 hn (hr.gr G0.out))
  rw [hv] at CV
  clear hv hr
  go_enter Try.func50, Try.ntmps50
  go_wp2_with (go_at_call 28; (with_reducible refine CV.out.mono ?_); rintro e w1 ⟨rfl, g1⟩; have G1 := Lib.hid (G0.out.trans g1); obtain ⟨p0, p1, p2, p3⟩ := B2.out.gr g1; clear g1)
  obtain ⟨z0, z1, _, _⟩ := (show Box2 w1 (w.heap.size + 1) 0 0 from ⟨p0, p1, p2, p3⟩).put (x' := 0) (y' := 0)
  exact bodyPost_ret (v := .tuple #[.agg #[.int .i64 0, .int .i64 0], .int .i64 50]) (by simp [results, Try.results50, go_sem, z0, z1]) rfl ⟨rfl, (G1.out.setCell (by simp) _).setCell (by simp) _⟩

set_option maxHeartbeats 4000000 in
set_option maxRecDepth 100000 in
theorem Slope_any (b o n c : Nat) (X Y : Nat → Int) (V : VP n X Y) (w : World) (hr : RdM w (some ⟨b, o, none⟩) n X Y) :
    Calls Try.prog 50 #[.slice (some ⟨b, o, none⟩) n c] w (fun e w' => e = .returned (.tuple #[.agg #[.int .i64 (med (sls X Y (prs X n))).1, .int .i64 (med (sls X Y (prs X n))).2], .int .i64 0]) ∧ Gr w w') := by
  have HV := Lib.hid V
  have n2 := V.two
  have n12 := V.few
  have HR := Lib.hid hr
  obtain ⟨md, hmd⟩ : ∃ m, med (sls X Y (prs X n)) = m := ⟨_, rfl⟩
  rw [hmd]
  have HMD := Lib.hid hmd
  clear hmd
  obtain ⟨Wa, hWa⟩ : ∃ Wa, ((w.alloc (.cells #[.slice (some ⟨b, o, none⟩) n c] 22)).alloc (.cells #[.int .i64 0, .int .i64 0] 27)) = Wa := ⟨_, rfl⟩
  have Ga := Lib.hid (show Gr w Wa by rw [← hWa]; exact ((Gr.refl w).alloc _).alloc _)
  have z1 : Wa.cell? ⟨w.heap.size, 0, none⟩ = some (.slice (some ⟨b, o, none⟩) n c) := by rw [← hWa]; exact ((Gr.refl _).alloc _).fresh' rfl rfl |>.1
  have B2a := Lib.hid (show Box2 Wa (w.heap.size + 1) 0 0 by rw [← hWa]; exact Box2.new (by simp))
  have CV := Lib.hid (Valid_any (some ⟨b, o, none⟩) n c X Y Wa (by omega) (hr.gr Ga.out))
  rw [vP_iff.2 V] at CV
  clear V hr
  refine (callsIn_wide (n := 3)).1 ?_
  refine callsIn_of_wp_marks Try.func50 rfl trivial ?_ rfl
  simp only [Try.ntmps50, List.size_toArray, List.length_cons, List.length_nil, Nat.reduceAdd, Nat.reduceSub, Array.replicate_succ, Array.replicate_zero, List.push_toArray, List.append_toArray, List.nil_append, List.cons_append]
  gi_wp2_with (first
    | (gi_at_call 28; (with_reducible refine (callsIn_wide.2 CV.out).mono ?_); rintro e w1 ⟨rfl, g1⟩; have z1' := g1.cell z1; have l1 := World.block_lt_of_cell? w1 _ z1'; simp only at l1)
    | (gi_at_call 83; (with_reducible refine (callsIn_wide.2 (pairs_any _ _ _ _)).mono ?_); rintro e w' ⟨rfl, rfl⟩))
  generalize hW0 : ((w1.alloc (.cells #[.slice none 0 0] 38)).alloc (.cells #[.slice (some ⟨b, o, none⟩) n c] 22)) = W0
  have S0 : W0.heap.size = w1.heap.size + 2 := by rw [← hW0]; simp
  have ga : Gr w1 W0 := by rw [← hW0]; exact ((Gr.refl w1).alloc _).alloc _
  have G0 := Lib.hid ((Ga.out.trans g1).trans ga)
  have B1 := Lib.hid (ga.cell z1')
  have B2 := Lib.hid ((B2a.out.gr g1).gr ga)
  have X4 := Lib.hid (show Boxed W0 w1.heap.size 38 (.slice none 0 0) by rw [← hW0]; exact (Boxed.new w1 38 _).alloc _)
  have B6 := Lib.hid (show W0.cell? ⟨w1.heap.size + 1, 0, none⟩ = some (.slice (some ⟨b, o, none⟩) n c) by rw [← hW0]; exact (Gr.refl _).fresh' (by simp) rfl |>.1)
  have LB := Lib.hid (show b < w.heap.size from by obtain ⟨b', o', e, hc⟩ := HR.out.at (show 0 < n by omega); simp at e; obtain ⟨rfl, rfl⟩ := e; exact World.block_lt_of_cell? w _ (hc 0 (by omega)).1)
  have L2 : w.heap.size + 1 < w1.heap.size := by have := World.block_lt_of_cell? w1 _ (B2a.out.gr g1).1; simpa using this
  clear hW0 ga g1 z1 z1' l1 CV
  generalize hb4 : w1.heap.size = b4 at *
  refine rangeFunc_memP rfl (by omega) (gf := 98) (lb := #[.pointer (some ⟨b4 + 1, 0, none⟩)]) rfl trivial (enters_of Try.func98 (by kernel_rfl) rfl)
    (pairs1_seqP (K := fun k => k < W0.heap.size ∧ ¬ k = b4) _ (by omega) (b4 + 1) b o n c X Y W0 n12 B6.out (HR.out.gr G0.out) (by omega) (by have := LB.out; omega))
    Kc.trans (fun W l o o' _ h hc _ => Kc.putObj W l o o' h hc) (fun x W l o o' hx h hc => hx) (Below.refl _ _) (fun _ => rfl)
    (Isl n X Y b4 W0) (Isl.own n X Y _ W0)
    ⟨⟨_, X4.out, World.ownsRow_nil W0 _ _ _⟩, Wx.refl _ _, fun q hq => by cases hq⟩
    (fun x => { tmps := #[.slice (some ⟨b, o, none⟩) n c, .pointer (some ⟨w.heap.size, 0, none⟩), .pointer (some ⟨w.heap.size + 1, 0, none⟩), .int .i64 0, .pointer (some ⟨b4, 0, none⟩), .int .i64 x.1, .int .i64 x.2, undef, .slice (some ⟨b, o, none⟩) n c, .bool true, .bool false, undef, .slice (some ⟨b, o, none⟩) n c, .func (.func 98) #[] #[.pointer (some ⟨b4 + 1, 0, none⟩)], .int .i64 x.1, .int .i64 x.2, undef, undef, undef, undef, undef, undef, undef, undef, undef, undef, undef, undef, undef, undef, undef, undef, undef, undef, undef, undef, undef, undef, undef, undef, undef, undef], defers := [] }) ?assign ?body ?done
  case assign =>
    intro l x W K hK
    unfold encP
    gi_wp2
    exact hK
  case body =>
    rintro l pre x W hpl ⟨⟨v, hv, hrow⟩, hX, hl⟩ hw
    have GW := Lib.hid (hX.gr G0.out (fun k hk => by omega))
    have CB := Lib.hid (hX.cell B1.out (by simp; omega))
    have cb := CB.out
    have WX := Lib.hid hX
    have HL := Lib.hid hl
    have HS := Lib.hid hv
    have HO := Lib.hid hrow
    have ok := HV.out.ok
    obtain ⟨i, k⟩ := x
    have i1 : i < n := Nat.lt_trans hw.1 hw.2.1
    have k1 : k < n := hw.2.1
    have i2 : (i : Int) < n := by omega
    have k2 : (k : Int) < n := by omega
    obtain ⟨b', o', e, hc⟩ := (HR.out.gr GW.out).at i1
    simp at e
    obtain ⟨rfl, rfl⟩ := e
    obtain ⟨ci0, ci1⟩ := hc i i1
    obtain ⟨ck0, ck1⟩ := hc k k1
    have CT := Lib.hid (fun w' => through_any (X i) (Y i) (X k) (Y k) w' (ok i i1) (ok k k1) hw.2.2)
    have HW := Lib.hid hw
    clear hv hrow hl hX ok hc hw
    have lb : b < W.heap.size := World.block_lt_of_cell? W _ ci0
    have lw : w.heap.size < W.heap.size := World.block_lt_of_cell? W _ cb
    gi_wp2
    gi_cut [7] from 16 (fun s7 wx => ∃ bx, s7 = .pointer (some ⟨bx, 0, none⟩) ∧ W.heap.size ≤ bx ∧ Gr W wx ∧ Box3 wx bx (thA (X i) (Y i) (X k) (Y k)) (thB (X i) (Y i) (X k) (Y k)) (thD (X i) (Y i) (X k) (Y k)))
    case first =>
      refine wpIn_region_held (fun w' => Gr W w') 11 (by kernel_rfl) rfl rfl ?_
      have hS : Gr W W.drew := (Gr.refl W).drew
      iterate 8 (first
        | (refine wpAnyHIn_take 0 (v := ?_) rfl (by kernel_rfl) (by kernel_rfl) (by kernel_rfl) (by decide +kernel) (fun _ _ _ h => h) (fun _ _ _ => trivial) (by rfl) (fun w' hSw => ?_) hS ?_; rotate_left 1; (focus (have cb' := hSw.cell cb; have c1 := hSw.cell ci0; have c2 := hSw.cell ci1; have c3 := hSw.cell ck0; have c4 := hSw.cell ck1; go_simp; try with_reducible rfl)); simp only [Act.put, List.setIfInBounds_toArray, List.set_cons_zero, List.set_cons_succ])
        | (refine wpAnyHIn_take 1 (v := ?_) rfl (by kernel_rfl) (by kernel_rfl) (by kernel_rfl) (by decide +kernel) (fun _ _ _ h => h) (fun _ _ _ => trivial) (by rfl) (fun w' hSw => ?_) hS ?_; rotate_left 1; (focus (have cb' := hSw.cell cb; have c1 := hSw.cell ci0; have c2 := hSw.cell ci1; have c3 := hSw.cell ck0; have c4 := hSw.cell ck1; go_simp; try with_reducible rfl)); simp only [Act.put, List.setIfInBounds_toArray, List.set_cons_zero, List.set_cons_succ])
        | (refine wpAnyHIn_take 2 (v := ?_) rfl (by kernel_rfl) (by kernel_rfl) (by kernel_rfl) (by decide +kernel) (fun _ _ _ h => h) (fun _ _ _ => trivial) (by rfl) (fun w' hSw => ?_) hS ?_; rotate_left 1; (focus (have cb' := hSw.cell cb; have c1 := hSw.cell ci0; have c2 := hSw.cell ci1; have c3 := hSw.cell ck0; have c4 := hSw.cell ck1; go_simp; try with_reducible rfl)); simp only [Act.put, List.setIfInBounds_toArray, List.set_cons_zero, List.set_cons_succ])
        | (refine wpAnyHIn_take 3 (v := ?_) rfl (by kernel_rfl) (by kernel_rfl) (by kernel_rfl) (by decide +kernel) (fun _ _ _ h => h) (fun _ _ _ => trivial) (by rfl) (fun w' hSw => ?_) hS ?_; rotate_left 1; (focus (have cb' := hSw.cell cb; have c1 := hSw.cell ci0; have c2 := hSw.cell ci1; have c3 := hSw.cell ck0; have c4 := hSw.cell ck1; go_simp; try with_reducible rfl)); simp only [Act.put, List.setIfInBounds_toArray, List.set_cons_zero, List.set_cons_succ])
        | (refine wpAnyHIn_take 4 (v := ?_) rfl (by kernel_rfl) (by kernel_rfl) (by kernel_rfl) (by decide +kernel) (fun _ _ _ h => h) (fun _ _ _ => trivial) (by rfl) (fun w' hSw => ?_) hS ?_; rotate_left 1; (focus (have cb' := hSw.cell cb; have c1 := hSw.cell ci0; have c2 := hSw.cell ci1; have c3 := hSw.cell ck0; have c4 := hSw.cell ck1; go_simp; try with_reducible rfl)); simp only [Act.put, List.setIfInBounds_toArray, List.set_cons_zero, List.set_cons_succ])
        | (refine wpAnyHIn_take 5 (v := ?_) rfl (by kernel_rfl) (by kernel_rfl) (by kernel_rfl) (by decide +kernel) (fun _ _ _ h => h) (fun _ _ _ => trivial) (by rfl) (fun w' hSw => ?_) hS ?_; rotate_left 1; (focus (have cb' := hSw.cell cb; have c1 := hSw.cell ci0; have c2 := hSw.cell ci1; have c3 := hSw.cell ck0; have c4 := hSw.cell ck1; go_simp; try with_reducible rfl)); simp only [Act.put, List.setIfInBounds_toArray, List.set_cons_zero, List.set_cons_succ])
        | (refine wpAnyHIn_take 6 (v := ?_) rfl (by kernel_rfl) (by kernel_rfl) (by kernel_rfl) (by decide +kernel) (fun _ _ _ h => h) (fun _ _ _ => trivial) (by rfl) (fun w' hSw => ?_) hS ?_; rotate_left 1; (focus (have cb' := hSw.cell cb; have c1 := hSw.cell ci0; have c2 := hSw.cell ci1; have c3 := hSw.cell ck0; have c4 := hSw.cell ck1; go_simp; try with_reducible rfl)); simp only [Act.put, List.setIfInBounds_toArray, List.set_cons_zero, List.set_cons_succ])
        | (refine wpAnyHIn_take 7 (v := ?_) rfl (by kernel_rfl) (by kernel_rfl) (by kernel_rfl) (by decide +kernel) (fun _ _ _ h => h) (fun _ _ _ => trivial) (by rfl) (fun w' hSw => ?_) hS ?_; rotate_left 1; (focus (have cb' := hSw.cell cb; have c1 := hSw.cell ci0; have c2 := hSw.cell ci1; have c3 := hSw.cell ck0; have c4 := hSw.cell ck1; go_simp; try with_reducible rfl)); simp only [Act.put, List.setIfInBounds_toArray, List.set_cons_zero, List.set_cons_succ]))
      refine wpAnyHIn_ready [8, 9] (by kernel_rfl) (by simp) ?_
      refine AllHIn.cons rfl (by rfl) (fun K hK => ?_) (AllHIn.cons rfl (by rfl) (fun K hK => ?_) AllHIn.nil)
      · go_simp
        refine (CallsIn.inRound l (callsIn_wide.2 (CT.out _))).mono ?_
        rintro e w3 ⟨rfl, g3⟩
        have g4 : Gr W w3 := hS.trans g3
        refine hK.out _ _ g4 ?_
        refine wpAnyHIn_ready [9] (by kernel_rfl) (by simp) ?_
        refine AllHIn.cons rfl (by rfl) (fun K2 hK2 => ?_) AllHIn.nil
        go_simp
        refine hK2.out _ _ (g4.alloc _) ?_
        refine wpAnyHIn_ready [10] (by kernel_rfl) (by simp) ?_
        refine AllHIn.cons rfl (by rfl) (fun K3 hK3 => ?_) AllHIn.nil
        go_simp
        refine hK3.out _ _ (g4.alloc _) ?_
        refine wpAnyHIn_done (by kernel_rfl) ?_ _
        gi_wp2
        gi_meet
        exact ⟨_, rfl, g4.size, g4.alloc _, Box3.new rfl⟩
      · go_simp
        have g4 := hS.alloc (.cells #[.int .i64 0, .int .i64 0, .int .i64 0] 37)
        refine hK.out _ _ g4 ?_
        refine wpAnyHIn_ready [8] (by kernel_rfl) (by simp) ?_
        refine AllHIn.cons rfl (by rfl) (fun K2 hK2 => ?_) AllHIn.nil
        go_simp
        refine (CallsIn.inRound l (callsIn_wide.2 (CT.out _))).mono ?_
        rintro e w3 ⟨rfl, g3⟩
        have hb := Box3.gr (Box3.new (w := W) (e := 37) (x := 0) (y := 0) (z := 0) rfl) (((Gr.refl _).drew).trans g3)
        obtain ⟨y0, y1, y2, y3, y4, y5⟩ := hb
        refine hK2.out _ _ (g4.trans g3) ?_
        refine wpAnyHIn_ready [10] (by kernel_rfl) (by simp) ?_
        refine AllHIn.cons rfl (by rfl) (fun K3 hK3 => ?_) AllHIn.nil
        go_simp
        refine hK3.out _ _ ((((g4.trans g3).setAt (Nat.le_refl _) _).setAt (Nat.le_refl _) _).setAt (Nat.le_refl _) _) ?_
        refine wpAnyHIn_done (by kernel_rfl) ?_ _
        gi_wp2
        gi_meet
        exact ⟨_, rfl, Nat.le_refl _, (((g4.trans g3).setAt (Nat.le_refl _) _).setAt (Nat.le_refl _) _).setAt (Nat.le_refl _) _, Box3.put ⟨y0, y1, y2, y3, y4, y5⟩ _ _ _⟩
    case rest =>
      obtain ⟨bx, rfl, hbx, gw, hb7⟩ := hcut
      have hx := HW.out
      obtain ⟨IL, d1, d2⟩ := pr_in HV.out.ok hx
      have a1 : -1000000 ≤ thA (X i) (Y i) (X k) (Y k) ∧ thA (X i) (Y i) (X k) (Y k) ≤ 1000000 := IL.1
      have d1 : 0 < thD (X i) (Y i) (X k) (Y k) := d1
      have d2 : thD (X i) (Y i) (X k) (Y k) ≤ 200 := d2
      have CR := Lib.hid (show ∀ w', Calls Try.prog 66 #[.int .i64 (thA (X i) (Y i) (X k) (Y k)), .int .i64 (thD (X i) (Y i) (X k) (Y k))] w' (RetR (slp X Y (i, k)).1 (slp X Y (i, k)).2 w') from fun w' => ratio_any (thA (X i) (Y i) (X k) (Y k)) (thD (X i) (Y i) (X k) (Y k)) w' (by unfold Sz; omega) (by unfold Sz; omega) (by omega))
      have GC := Lib.hid (GW.out.trans gw)
      have GX := Lib.hid gw
      have hv4 := HS.out.gr gw
      have y0 := hv4.cell
      obtain ⟨x0, x1, x2, x3, x4, x5⟩ := hb7
      have LL := Lib.hid (show (sls X Y pre).length < 1000000000 by
        unfold sls
        rw [List.length_map]
        omega)
      generalize thA (X i) (Y i) (X k) (Y k) = A at *
      generalize thB (X i) (Y i) (X k) (Y k) = B at *
      generalize thD (X i) (Y i) (X k) (Y k) = D at *
      clear ci0 ci1 ck0 ck1 cb CB CT i2 k2 lb lw IL d1 d2 a1
      gi_wp2
      refine wpIn_region_mark (fun w' => Gr wc w') 7 9 (by kernel_rfl) rfl rfl ?_
      have hS : Gr wc wc.drew := (Gr.refl wc).drew
      iterate 5 (first
        | (refine wpAnyMIn_take 0 (v := ?_) rfl (by kernel_rfl) (by kernel_rfl) (by kernel_rfl) (by decide +kernel) (by kernel_rfl) (fun _ _ _ h => h) (fun _ _ _ => trivial) (by rfl) (fun w' hSw => ?_) hS ?_; rotate_left 1; (focus (have u0 := hSw.cell y0; have u1 := hSw.cell x0; have u2 := hSw.cell x2; go_simp; try with_reducible rfl)); simp only [Act.put, List.setIfInBounds_toArray, List.set_cons_zero, List.set_cons_succ])
        | (refine wpAnyMIn_take 1 (v := ?_) rfl (by kernel_rfl) (by kernel_rfl) (by kernel_rfl) (by decide +kernel) (by kernel_rfl) (fun _ _ _ h => h) (fun _ _ _ => trivial) (by rfl) (fun w' hSw => ?_) hS ?_; rotate_left 1; (focus (have u0 := hSw.cell y0; have u1 := hSw.cell x0; have u2 := hSw.cell x2; go_simp; try with_reducible rfl)); simp only [Act.put, List.setIfInBounds_toArray, List.set_cons_zero, List.set_cons_succ])
        | (refine wpAnyMIn_take 2 (v := ?_) rfl (by kernel_rfl) (by kernel_rfl) (by kernel_rfl) (by decide +kernel) (by kernel_rfl) (fun _ _ _ h => h) (fun _ _ _ => trivial) (by rfl) (fun w' hSw => ?_) hS ?_; rotate_left 1; (focus (have u0 := hSw.cell y0; have u1 := hSw.cell x0; have u2 := hSw.cell x2; go_simp; try with_reducible rfl)); simp only [Act.put, List.setIfInBounds_toArray, List.set_cons_zero, List.set_cons_succ])
        | (refine wpAnyMIn_take 3 (v := ?_) rfl (by kernel_rfl) (by kernel_rfl) (by kernel_rfl) (by decide +kernel) (by kernel_rfl) (fun _ _ _ h => h) (fun _ _ _ => trivial) (by rfl) (fun w' hSw => ?_) hS ?_; rotate_left 1; (focus (have u0 := hSw.cell y0; have u1 := hSw.cell x0; have u2 := hSw.cell x2; go_simp; try with_reducible rfl)); simp only [Act.put, List.setIfInBounds_toArray, List.set_cons_zero, List.set_cons_succ])
        | (refine wpAnyMIn_take 4 (v := ?_) rfl (by kernel_rfl) (by kernel_rfl) (by kernel_rfl) (by decide +kernel) (by kernel_rfl) (fun _ _ _ h => h) (fun _ _ _ => trivial) (by rfl) (fun w' hSw => ?_) hS ?_; rotate_left 1; (focus (have u0 := hSw.cell y0; have u1 := hSw.cell x0; have u2 := hSw.cell x2; go_simp; try with_reducible rfl)); simp only [Act.put, List.setIfInBounds_toArray, List.set_cons_zero, List.set_cons_succ]))
      refine wpAnyMIn_ready [5] (by kernel_rfl) (by simp) ?_
      refine AllMIn.cons rfl (by rfl) (fun K hK => ?_) AllMIn.nil
      go_simp
      refine (CallsIn.inRound l (callsIn_wide.2 (CR.out _))).mono ?_
      rintro e w4 ⟨rfl, g4⟩
      have h4 : Gr wc w4 := hS.trans g4
      refine hK.out _ _ (fun _ => h4) ?_
      clear hK K
      refine wpAnyMIn_ready [6] (by kernel_rfl) (by simp) ?_
      refine AllMIn.cons rfl (by rfl) (fun K hK => ?_) AllMIn.nil
      go_simp
      refine hK.out _ _ (fun _ => h4.alloc _) ?_
      clear hK K
      refine wpAnyMIn_ready [7] (by kernel_rfl) (by simp) ?_
      refine AllMIn.cons rfl (by rfl) (fun K hK => ?_) AllMIn.nil
      refine wpIn_app_pair _ _ 38 27 rfl Try.underlying38 Try.info27 v (sls X Y pre) rfl ((ownsRow_gr HO.out (GX.out.trans h4)).alloc _) (by have := Wx.size WX.out; have := Gr.size (GX.out.trans h4); simp; omega) w4.heap.size (slp X Y (i, k)).1 (slp X Y (i, k)).2 rfl (cell_new2 _ _ _ _) LL.out ?_
      intro v1 w5 r1 r2
      refine hK.out _ _ (fun h => absurd h (by decide +kernel)) ?_
      clear hK K
      have hv5 : Boxed w5 b4 38 v := ((HS.out.gr (GX.out.trans h4)).alloc _).kept r2 ((HS.out.gr (GX.out.trans h4)).not_row (by decide) (ownsRow_gr HO.out (GX.out.trans h4)))
      have RD := Lib.hid (fun W' hW' => slope_round (n := n) (q := (i, k)) WX.out HL.out (GX.out.trans h4) HW.out HS.out HO.out r1 r2 (W' := W') hW')
      obtain ⟨gq, capq, rfl⟩ := ownsRow_succ r1
      have c5 := hv5.cell
      have f5 := hv5.frozen
      refine wpAnyMIn_ready [8] (by kernel_rfl) (by simp) ?_
      refine AllMIn.cons rfl (by rfl) (fun K hK => ?_) AllMIn.nil
      go_simp
      refine hK.out _ _ (fun h => absurd h (by decide +kernel)) ?_
      clear hK K
      refine wpAnyMIn_done (by kernel_rfl) ?_ _
      gi_wp2
      exact RD.out _ (Gr.refl _)
  case done =>
    rintro D xs W hD hxs ⟨⟨v, hv, hrow⟩, hX, hl⟩ hK
    rw [hxs] at hrow
    have GW := Lib.hid (hX.gr G0.out (fun k hk => by omega))
    have hpr := prs_pr (X := X) (Nat.le_refl n)
    have hne : sls X Y (prs X n) ≠ [] := fun e => prs_ne HV.out (List.map_eq_nil_iff.1 e)
    have hsl : ∀ x ∈ sls X Y (prs X n), Sl x := fun x hx => by
      obtain ⟨q, hq, rfl⟩ := List.mem_map.1 hx
      exact slp_rd HV.out.ok (hpr q hq)
    have LN : (sls X Y (prs X n)).length < 200 := by
      have := prs_len X n n12
      unfold sls
      rw [List.length_map]
      omega
    have LP : 0 < (sls X Y (prs X n)).length := List.length_pos_iff.2 hne
    have EM := Lib.hid (show md = (iso (sls X Y (prs X n))).getD (((sls X Y (prs X n)).length - 1) / 2) (0, 0) from HMD.out.symm)
    clear HMD
    generalize sls X Y (prs X n) = L at *
    obtain ⟨m, hm⟩ : ∃ m, L.length = m + 1 := ⟨L.length - 1, by omega⟩
    obtain ⟨g, cap, rfl⟩ : ∃ g cap, v = .slice (some ⟨g, 0, none⟩) L.length cap := by
      have h := hrow
      rw [hm] at h ⊢
      exact ownsRow_succ h
    have CS := Lib.hid (sort_list hsl hrow (by omega))
    have gB : W0.heap.size ≤ g := by
      rcases hrow.2 with ⟨h, _⟩ | ⟨g', c', cur, h, hb, _⟩
      · cases h
      · cases h; exact hb
    have gD : D ≠ g := fun e => by
      rcases hrow.2 with ⟨h, _⟩ | ⟨g', c', cur, h, _, hb, _⟩
      · cases h
      · cases h; rw [← e, hK] at hb; cases hb
    have g4 : b4 ≠ g := by omega
    have g2 : w.heap.size + 1 ≠ g := by omega
    have c4 := hv.cell
    have NB : ¬ w.heap.size + 1 = b4 := by omega
    have B2' : Box2 W (w.heap.size + 1) 0 0 := ⟨hX.cell B2.out.1 NB, hX.cell B2.out.2.1 NB, (hX.frozen B2.out.1 NB).trans B2.out.2.2.1, (hX.frozen B2.out.2.1 NB).trans B2.out.2.2.2⟩
    have HB2 := Lib.hid B2'
    have HK := Lib.hid hK
    have hDw : D < W.heap.size := (Array.getElem?_eq_some_iff.1 hK).1
    have k1 : (L.length - 1) / 2 < L.length := by omega
    have q1 : IntKind.i64.wrap ((L.length : Int) - 1) = ((L.length - 1 : Nat) : Int) := by rw [IntWalk.i64_in _ (by omega)]; omega
    have q2 : IntKind.i64.wrap ((((L.length - 1 : Nat)) : Int) / 2) = (((L.length - 1) / 2 : Nat) : Int) := by rw [IntWalk.i64_in _ (by omega)]; omega
    have q3 : wrap64 ((((L.length - 1 : Nat)) : Int) / 2) = (((L.length - 1) / 2 : Nat) : Int) := by rw [IntWalk.wrap64_in _ (by omega)]; omega
    have k2 : (((L.length - 1) / 2 : Nat) : Int) < (L.length : Int) := Int.ofNat_lt.2 k1
    have ES := Lib.hid EM.out.symm
    generalize hkk : (L.length - 1) / 2 = kk at *
    generalize hll : L.length - 1 = ll at *
    clear hv hrow hX hl hK hxs hsl B2' EM hkk hll hne hm
    gi_wp2_with (gi_at_call 84; (with_reducible refine (callsIn_wide.2 CS.out).mono ?_); rintro e w2 ⟨rfl, gs, cs⟩; have d4 := gs.cell c4 (by simpa using g4); obtain ⟨s0, s1⟩ := cs kk k1; rw [ES.out, Nat.zero_add] at s0 s1; have HX := Lib.hid (show Box2 w2 (w.heap.size + 1) 0 0 from ⟨gs.cell HB2.out.1 (by simpa using g2), gs.cell HB2.out.2.1 (by simpa using g2), (Wr.frozen (bb := g) gs HB2.out.1 g2).trans HB2.out.2.2.1, (Wr.frozen (bb := g) gs HB2.out.2.1 g2).trans HB2.out.2.2.2⟩); obtain ⟨p0, p1, p2, p3⟩ := HX.out; have HG := Lib.hid (Wr.gr (bb := g) gs GW.out (by omega)); have HD := Lib.hid ((gs.block D hDw (by simpa using gD)).trans HK.out); clear gs cs)
    have HE := fun (W1 W' : World) => slope_end (W1 := W1) (W' := W') (A := md.1) (B := md.2) (show w.heap.size ≤ w.heap.size + 1 by omega) (show w.heap.size ≤ D by omega) (show D ≠ w.heap.size + 1 by omega) HG.out HX.out HD.out
    obtain ⟨e1, e2, e3⟩ := HE _ _ rfl rfl
    refine ⟨by simp, .inl ⟨_, _, rfl, run_takeDeferred e1, ?_⟩⟩
    obtain ⟨r0, r1, _⟩ := e2
    exact ⟨.tuple #[.agg #[.int .i64 md.1, .int .i64 md.2], .int .i64 0], by simp [results, Try.f50, go_sem, r0, r1], rfl, e3⟩

end Go.Proofs.Ytbhndfnfohoidaa
