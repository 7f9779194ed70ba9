/- Contracts of chapter 2: the most hits within a time. -/
import Derived.Test.YtjokheeegcilhaaDoorWK
import Derived.Test.YtjokheeegcilhaaDoorRhe
namespace Go.Proofs.YtjokheeegcilhaaDoor
open Go.RowKit Go.Firn Go.Shelf Go.Sort
attribute [local go_sem] Oper.semAt_some
attribute [local simp] wide_fn

theorem _root_.Go.Firn.Wx.own {X : Nat → Prop} {a b c : World} {row : Option Nat} (h : Wx X a b) (g : b.grownBy c row) (hr : ∀ r, row = some r → a.heap.size ≤ r) : Wx X a c :=
  ⟨g.os.trans h.os, g.tape.trans h.tape, g.output.trans h.output, Nat.le_trans h.size g.size, fun k hk hX => (g.block k (Nat.lt_of_lt_of_le hk h.size) (fun e => by have := hr k e.symm; omega)).trans (h.block k hk hX)⟩
theorem counts_any (a : Option Addr) (n c : Nat) (wi : Int) (w : World) :
    Calls Tryd.prog 91 #[.slice a n c, .int .i64 wi] w fun e w' => e = .returned (.func (.func 107) #[] #[.pointer (some ⟨w.heap.size, 0, none⟩), .pointer (some ⟨w.heap.size + 1, 0, none⟩)]) ∧ w' = (w.alloc (.cells #[.slice a n c] 22)).alloc (.cells #[.int .i64 wi] 3) := by
  have hmf : ∀ (fn : Fn) (first cap : Array Value) (w : World), (Instr.makeFunc fn first cap).run Tryd.prog w = .ok (.func fn first cap) w := fun _ _ _ _ => rfl
  go_enter Tryd.func91, Tryd.ntmps91
  go_wp2_with fail
  go_ret
  exact ⟨rfl, rfl⟩

/-- Where nothing panics. -/
def noPanic (Q : Exit → Act → World → Prop) : Exit → Act → World → Prop
  | .panic _, _, _ => False
  | e, a, w => Q e a w
theorem noPanic_le {Q : Exit → Act → World → Prop} : ∀ e a w, noPanic Q e a w → Q e a w
  | .normal, _, _, h => h
  | .ret, _, _, h => h
  | .exit _, _, _, h => h
  | .goto _, _, _, h => h
  | .outgrown, _, _, h => h

theorem noPanic_normal (Q : Exit → Act → World → Prop) (a : Act) (w : World) : noPanic Q .normal a w = Q .normal a w := rfl
theorem wpIn_np {F : Fence} {n : Nat} {P : Program} {c : Code} {Q : Exit → Act → World → Prop} {a : Act} {w : World} (h : c.wpIn F n P (noPanic Q) a w) : c.wpIn F n P Q a w := wpIn_mono h noPanic_le
/-- Two cells of a number each. -/
structure Mb (W : World) (b4 b5 : Nat) (m a : Int) : Prop where
  c4 : W.cell? ⟨b4, 0, none⟩ = some (.int .i64 m)
  f4 : W.frozen? ⟨b4, 0, none⟩ = false
  c5 : W.cell? ⟨b5, 0, none⟩ = some (.int .i64 a)
  f5 : W.frozen? ⟨b5, 0, none⟩ = false
theorem Mb.gr {W W' : World} {b4 b5 : Nat} {m a : Int} (h : Mb W b4 b5 m a) (g : Gr W W') : Mb W' b4 b5 m a :=
  ⟨g.cell h.c4, (Below.frozen g (p := ⟨b4, 0, none⟩) (World.block_lt_of_cell? _ _ h.c4)).trans h.f4, g.cell h.c5, (Below.frozen g (p := ⟨b5, 0, none⟩) (World.block_lt_of_cell? _ _ h.c5)).trans h.f5⟩
theorem Mb.own {W W' : World} {b4 b5 : Nat} {m a : Int} {row : Option Nat} (h : Mb W b4 b5 m a) (hg : W.grownBy W' row) (hr : ∀ r, row = some r → ∃ o : Obj, W.heap[r]? = some o ∧ o.isCells = false) : Mb W' b4 b5 m a :=
  ⟨cell_kept h.c4 hg hr, (frozen_kept h.c4 hg hr).trans h.f4, cell_kept h.c5 hg hr, (frozen_kept h.c5 hg hr).trans h.f5⟩
/-- The caller's invariant. -/
def Ib (b4 b5 : Nat) (W0 : World) (pre : List (Int × Int)) (W : World) : Prop := Mb W b4 b5 (mstO pre).1 (mstO pre).2 ∧ Wx (fun k => k = b4 ∨ k = b5) W0 W
theorem Ib.own (b4 b5 : Nat) (W0 : World) : OwnFrom W0.heap.size (Ib b4 b5 W0) := fun _ _ _ _ hs hg hr =>
  ⟨hs.1.own hg (fun r e => (hr r e).2), hs.2.own hg (fun r e => (hr r e).1)⟩

theorem Mb.put {W : World} {b4 b5 : Nat} {m a : Int} (h : Mb W b4 b5 m a) (hne : b4 ≠ b5) (m' a' : Int) : Mb ((W.setCell ⟨b4, 0, none⟩ (.int .i64 m')).setCell ⟨b5, 0, none⟩ (.int .i64 a')) b4 b5 m' a' := by
  have k5 : (W.setCell ⟨b4, 0, none⟩ (.int .i64 m')).cell? ⟨b5, 0, none⟩ = some (.int .i64 a) := by
    rw [World.cell?_setCell_other _ _ _ _ (fun e => hne (congrArg Addr.block e))]; exact h.c5
  refine ⟨?_, by rw [World.frozen?_setCell, World.frozen?_setCell]; exact h.f4, World.cell?_setCell_same' _ _ _ (by rw [k5]; rfl), by rw [World.frozen?_setCell, World.frozen?_setCell]; exact h.f5⟩
  rw [World.cell?_setCell_other _ _ _ _ (fun e => hne (congrArg Addr.block e).symm)]
  exact World.cell?_setCell_same' _ _ _ (by rw [h.c4]; rfl)
theorem Mb.put4 {W : World} {b4 b5 : Nat} {m a : Int} (h : Mb W b4 b5 m a) (hne : b4 ≠ b5) (m' : Int) : Mb (W.setCell ⟨b4, 0, none⟩ (.int .i64 m')) b4 b5 m' a :=
  ⟨World.cell?_setCell_same' _ _ _ (by rw [h.c4]; rfl), by rw [World.frozen?_setCell]; exact h.f4, by rw [World.cell?_setCell_other _ _ _ _ (fun e => hne (congrArg Addr.block e))]; exact h.c5, by rw [World.frozen?_setCell]; exact h.f5⟩
theorem Mb.put5 {W : World} {b4 b5 : Nat} {m a : Int} (h : Mb W b4 b5 m a) (hne : b4 ≠ b5) (a' : Int) : Mb (W.setCell ⟨b5, 0, none⟩ (.int .i64 a')) b4 b5 m a' :=
  ⟨by rw [World.cell?_setCell_other _ _ _ _ (fun e => hne (congrArg Addr.block e).symm)]; exact h.c4, by rw [World.frozen?_setCell]; exact h.f4, World.cell?_setCell_same' _ _ _ (by rw [h.c5]; rfl), by rw [World.frozen?_setCell]; exact h.f5⟩
/-- The results' cells while they are stored anew, with the block of the deferred calls. -/
def Sd (w : World) (b4 b5 D : Nat) (m a : Int) (W : World) : Prop := Mb W b4 b5 m a ∧ Gr w W ∧ W.heap[D]? = some (.deferred (some []))
theorem Sd.p4 {w W : World} {b4 b5 D : Nat} {m a : Int} (h : Sd w b4 b5 D m a W) (hne : b4 ≠ b5) (hb : w.heap.size ≤ b4) (hd : D ≠ b4) : Sd w b4 b5 D m a (W.setCell ⟨b4, 0, none⟩ (.int .i64 m)) :=
  ⟨h.1.put4 hne m, h.2.1.setCell (p := ⟨b4, 0, none⟩) hb _, (Below.heap_setCell _ _ _ _ hd).trans h.2.2⟩
theorem Sd.p5 {w W : World} {b4 b5 D : Nat} {m a : Int} (h : Sd w b4 b5 D m a W) (hne : b4 ≠ b5) (hb : w.heap.size ≤ b5) (hd : D ≠ b5) : Sd w b4 b5 D m a (W.setCell ⟨b5, 0, none⟩ (.int .i64 a)) :=
  ⟨h.1.put5 hne a, h.2.1.setCell (p := ⟨b5, 0, none⟩) hb _, (Below.heap_setCell _ _ _ _ hd).trans h.2.2⟩
theorem Sd.drew {w W : World} {b4 b5 D : Nat} {m a : Int} (h : Sd w b4 b5 D m a W) : Sd w b4 b5 D m a W.drew := ⟨h.1.gr (Gr.refl W).drew, h.2.1.drew, h.2.2⟩

set_option maxHeartbeats 4000000 in
set_option maxRecDepth 100000 in
theorem Most_ok (adr : Option Addr) (n c : Nat) (P T : Nat → Int) (wi : Int) (w : World) (hr : RdM w adr n P T) (hw : WfH n P T) (V : VH n P T) (hb : 0 ≤ wi ∧ wi ≤ 2000) :
    Calls Tryd.prog 49 #[.slice adr n c, .int .i64 wi] w fun e w' => ∃ m a, IsM T (cI T n wi) n m a ∧ RetMo m a 0 w e w' := by
  have hn := V.few
  have h1 := V.pos
  have CV := Lib.hid (fun w1 (k : Gr w w1) => Valid_any adr n c P T w1 (by omega) hw (hr.gr k))
  rw [vH_iff.2 V] at CV
  have CW := Lib.hid (fun w1 => isWithin_any wi w1)
  rw [show btw 0 wi 2000 = true by unfold btw; simp [hb.1, hb.2]] at CW
  have HR := Lib.hid hr
  have VT := Lib.hid (show ∀ i, i < n → -1000 ≤ T i ∧ T i ≤ 1000 from fun i hi => (V.ok i hi).2.2)
  have IM := Lib.hid (show IsM T (cI T n wi) n (mstO (yls (srF T n) (cI T n wi) n)).1 (mstO (yls (srF T n) (cI T n wi) n)).2 from by
    have t := mst_is (S := srF T n) (c := cI T n wi) (n := n) (fun i j hij hj => srF_mono hij hj) (fun i hi => by
      obtain ⟨k, hk, e⟩ := srF_mem (X := T) hi
      rw [e]
      have := cnT_pos (T := T) hb.1 hk
      unfold cI; omega) (k := n - 1) (by omega)
    rw [show n - 1 + 1 = n by omega] at t
    exact t.sorted)
  clear hr hw V
  obtain ⟨W1, hW1⟩ : ∃ W1, (w.alloc (.cells #[.int .i64 0] 3)).alloc (.cells #[.int .i64 0] 3) = W1 := ⟨_, rfl⟩
  have G1 := Lib.hid (show Gr w W1 by rw [← hW1]; exact ((Gr.refl w).alloc _).alloc _)
  have B4 := Lib.hid (show W1.cell? ⟨w.heap.size, 0, none⟩ = some (.int .i64 0) ∧ W1.frozen? ⟨w.heap.size, 0, none⟩ = false by rw [← hW1]; exact ((Gr.refl _).alloc _).fresh' rfl rfl)
  have B5 := Lib.hid (show W1.cell? ⟨w.heap.size + 1, 0, none⟩ = some (.int .i64 0) ∧ W1.frozen? ⟨w.heap.size + 1, 0, none⟩ = false by rw [← hW1]; exact (Gr.refl _).fresh' (by simp) rfl)
  refine (callsIn_wide (n := 3)).1 ?_
  refine callsIn_of_wp_marks Tryd.func49 rfl trivial ?_ rfl
  simp only [Tryd.ntmps49, List.size_toArray, List.length_cons, List.length_nil, Nat.reduceAdd, Nat.reduceSub, Array.replicate_succ, Array.replicate_zero, List.push_toArray, List.append_toArray, List.nil_append, List.cons_append]
  gi_wp2_with (first
    | (gi_at_call 26; refine (callsIn_wide.2 (CV.out _ G1.out)).mono ?_; rintro e w2 ⟨rfl, g2⟩; have G2 := Lib.hid (G1.out.trans g2); have M2 := Lib.hid (show Mb w2 w.heap.size (w.heap.size + 1) 0 0 from (Mb.mk B4.out.1 B4.out.2 B5.out.1 B5.out.2).gr g2); clear g2)
    | (gi_at_call 90; refine (callsIn_wide.2 (CW.out _)).mono ?_; rintro e w3 ⟨rfl, rfl⟩)
    | (gi_at_call 91; refine (callsIn_wide.2 (counts_any _ _ _ _ _)).mono ?_; rintro e w4 ⟨rfl, rfl⟩))
  have sz : w.heap.size + 1 < w2.heap.size := World.block_lt_of_cell? _ _ M2.out.c5
  generalize hW0 : ((w2.alloc _).alloc _) = W0
  have S0 : W0.heap.size = w2.heap.size + 2 := by rw [← hW0]; simp
  have G20 := Lib.hid (show Gr w2 W0 by rw [← hW0]; exact ((Gr.refl w2).alloc _).alloc _)
  have BH := Lib.hid (show W0.cell? ⟨w2.heap.size, 0, none⟩ = some (.slice adr n c) by rw [← hW0]; exact (((Gr.refl _).alloc _).fresh' rfl rfl).1)
  have BW := Lib.hid (show W0.cell? ⟨w2.heap.size + 1, 0, none⟩ = some (.int .i64 wi) by rw [← hW0]; exact ((Gr.refl _).fresh' (by simp) rfl).1)
  have M0 := Lib.hid (M2.out.gr G20.out)
  have G0 := Lib.hid (G2.out.trans G20.out)
  clear hW0
  refine wpIn_rangeFunc_ownF rfl (by omega) (gf := 107) (lb := #[.pointer (some ⟨w2.heap.size, 0, none⟩), .pointer (some ⟨w2.heap.size + 1, 0, none⟩)]) rfl trivial (enters_of Tryd.func107 (by kernel_rfl) rfl)
    (counts1_seq (K := fun k => k ≠ w.heap.size ∧ k ≠ w.heap.size + 1) _ (by omega) w2.heap.size (w2.heap.size + 1) adr n c P T wi W0 h1 hn VT.out hb BH.out BW.out (HR.out.gr G0.out) (by omega) (fun k hk => by omega))
    Kc.trans (fun W l o o' _ h hc _ => Kc.putObj W l o o' h hc) (Below.refl _ _) (fun _ => rfl)
    (Ib w.heap.size (w.heap.size + 1) W0) (fun _ _ _ => False) (Ib.own _ _ W0) (fun _ _ _ _ _ hs _ _ => hs)
    ⟨M0.out, Wx.refl _ _⟩
    (fun x => { tmps := #[.slice adr n c, .int .i64 wi, undef, undef, .pointer (some ⟨w.heap.size, 0, none⟩), .pointer (some ⟨w.heap.size + 1, 0, none⟩), .int .i64 0, .int .i64 x.1, .int .i64 x.2, .bool false, .slice adr n c, .bool true, .bool false, .bool false, .int .i64 wi, .bool true, .bool false, .slice adr n c, .int .i64 wi, .func (.func 107) #[] #[.pointer (some ⟨w2.heap.size, 0, none⟩), .pointer (some ⟨w2.heap.size + 1, 0, none⟩)], .int .i64 x.1, .int .i64 x.2, undef, undef, undef, undef, undef, undef, undef], defers := [] }) ?assign ?body ?done ?stop
  case assign =>
    intro l x W K hK
    unfold encP
    gi_wp2
    exact hK
  case body =>
    rintro l pre ⟨t, q⟩ W ⟨hM, hX⟩ _
    dsimp only
    have SN := Lib.hid (mst_snoc pre (t, q))
    generalize hs : mstO pre = s at *
    obtain ⟨m, a⟩ := s
    obtain ⟨c4, f4, c5, f5⟩ := hM
    dsimp only at c4 c5
    have HX := Lib.hid hX
    have M4 := Lib.hid (Mb.mk c4 f4 c5 f5)
    clear hX hs
    by_cases hlt : m < q
    · have hgt : q > m := hlt
      have E := Lib.hid (show mstO (pre ++ [(t, q)]) = (q, t) by rw [SN.out]; unfold stM; rw [if_pos hlt])
      clear SN
      gi_wp2
      have hw : Wx (fun k => k = w.heap.size ∨ k = w.heap.size + 1) W ((W.setCell ⟨w.heap.size, 0, none⟩ (.int .i64 q)).setCell ⟨w.heap.size + 1, 0, none⟩ (.int .i64 t)) := ((Wx.refl _ W).set (.inl rfl) 0 _).set (.inr rfl) 0 _
      refine ⟨(KeepsOthers.setCell _ _ _).trans (KeepsOthers.setCell _ _ _), fun p v hp e => hw.cell e (fun h => h.elim hp.1 hp.2), ?_, HX.out.trans hw⟩
      rw [E.out]
      exact M4.out.put (by omega) q t
    · have hgt : ¬ q > m := hlt
      have E := Lib.hid (show mstO (pre ++ [(t, q)]) = (m, a) by rw [SN.out]; unfold stM; rw [if_neg hlt])
      clear SN
      gi_wp2
      refine ⟨KeepsOthers.refl _, fun _ _ _ e => e, ?_, HX.out⟩
      rw [E.out]
      exact M4.out
  case done =>
    rintro D ys W hD rfl ⟨hM, hX⟩ hK
    have GW := Lib.hid (hX.gr G0.out (fun k hk => by omega))
    have MM := Lib.hid hM
    have HK := Lib.hid hK
    clear hM hX hK
    gi_wp2
    generalize (mstO (yls (srF T n) (cI T n wi) n)).1 = rm at *
    generalize (mstO (yls (srF T n) (cI T n wi) n)).2 = ra at *
    have N1 : w.heap.size ≠ w.heap.size + 1 := by omega
    have N2 : D ≠ w.heap.size := by omega
    have N3 : D ≠ w.heap.size + 1 := by omega
    have N4 : w.heap.size ≤ w.heap.size := Nat.le_refl _
    have N5 : w.heap.size ≤ w.heap.size + 1 := by omega
    refine wpIn_np ?_
    refine wpIn_region_held (Sd w w.heap.size (w.heap.size + 1) D rm ra) 5 (by kernel_rfl) rfl rfl ?_
    have hS := Sd.drew (show Sd w w.heap.size (w.heap.size + 1) D rm ra W from ⟨MM.out, GW.out, HK.out⟩)
    generalize W.drew = Wd at hS ⊢
    iterate 2 (first
      | (refine wpAnyHIn_take 0 (v := ?_) rfl (by kernel_rfl) (by kernel_rfl) (by kernel_rfl) (by decide +kernel) (fun _ _ _ h => h) (fun _ _ _ => trivial) (by rfl) (fun w' hSw => ?_) hS ?_; rotate_left 1; (focus (obtain ⟨⟨a0, a1, a2', a3'⟩, _, _⟩ := hSw; go_simp; try with_reducible rfl)); simp only [Act.put, List.setIfInBounds_toArray, List.set_cons_zero, List.set_cons_succ])
      | (refine wpAnyHIn_take 1 (v := ?_) rfl (by kernel_rfl) (by kernel_rfl) (by kernel_rfl) (by decide +kernel) (fun _ _ _ h => h) (fun _ _ _ => trivial) (by rfl) (fun w' hSw => ?_) hS ?_; rotate_left 1; (focus (obtain ⟨⟨a0, a1, a2', a3'⟩, _, _⟩ := hSw; go_simp; try with_reducible rfl)); simp only [Act.put, List.setIfInBounds_toArray, List.set_cons_zero, List.set_cons_succ]))
    refine wpAnyHIn_ready [2] (by kernel_rfl) (by simp) ?_
    refine AllHIn.cons rfl (by rfl) (fun K hK => ?_) AllHIn.nil
    have hS0 := hS
    obtain ⟨⟨a0, a1, a2', a3'⟩, _, _⟩ := hS0
    go_simp
    have hS := Sd.p4 hS N1 N4 N2
    refine hK.out _ _ hS ?_
    clear hK K a0 a1 a2' a3'
    refine wpAnyHIn_ready [3] (by kernel_rfl) (by simp) ?_
    refine AllHIn.cons rfl (by rfl) (fun K hK => ?_) AllHIn.nil
    have hS0 := hS
    obtain ⟨⟨a0, a1, a2', a3'⟩, _, _⟩ := hS0
    go_simp
    have hS := Sd.p5 hS N1 N5 N3
    refine hK.out _ _ hS ?_
    clear hK K a0 a1 a2' a3'
    iterate 1 (first
      | (refine wpAnyHIn_take 4 (v := ?_) rfl (by kernel_rfl) (by kernel_rfl) (by kernel_rfl) (by decide +kernel) (fun _ _ _ h => h) (fun _ _ _ => trivial) (by rfl) (fun w' hSw => ?_) hS ?_; rotate_left 1; (focus (skip; go_simp; try with_reducible rfl)); simp only [Act.put, List.setIfInBounds_toArray, List.set_cons_zero, List.set_cons_succ]))
    refine wpAnyHIn_done (by kernel_rfl) ?_ _
    obtain ⟨m4, gw, hd⟩ := hS
    rw [noPanic_normal]
    gi_wp2
    refine ⟨by simp, .inl ⟨_, _, rfl, run_takeDeferred hd, ?_⟩⟩
    have gp := fun W' => grownBy_putObj' W' D (.deferred none)
    have kp : ∀ W' : World, W'.heap[D]? = some (.deferred (some [])) → ∀ r, some D = some r → ∃ o : Obj, W'.heap[r]? = some o ∧ o.isCells = false := fun W' h r er => by cases er; exact ⟨_, h, rfl⟩
    have m5 := m4.own (gp _) (kp _ hd)
    have c4 := m5.c4
    have c5 := m5.c5
    have GP := gw.grown (gp _) (fun k er => by cases er; omega)
    exact ⟨_, by simp [results, Tryd.f49, go_sem, c4, c5], rm, ra, IM.out, rfl, GP⟩
  case stop =>
    rintro D c pre W _ _ h _
    exact h.elim

end Go.Proofs.YtjokheeegcilhaaDoor
