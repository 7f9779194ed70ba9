/- Contracts of chapter 2: the first trigger. -/
import Derived.Test.YtjokheeegcilhaaDoorWL
namespace Go.Proofs.YtjokheeegcilhaaDoor
open Go.RowKit Go.Firn Go.Shelf Go.Sort
attribute [local go_sem] Oper.semAt_some
attribute [local simp] wide_fn

/-- The caller's invariant: none so far was enough. -/
def It (N : Int) (b6 b7 : Nat) (W0 : World) (pre : List (Int × Int)) (W : World) : Prop := (∀ x ∈ pre, x.2 < N) ∧ Mb W b6 b7 0 0 ∧ Wx (fun k => k = b6 ∨ k = b7) W0 W
theorem It.own (N : Int) (b6 b7 : Nat) (W0 : World) : OwnFrom W0.heap.size (It N b6 b7 W0) := fun _ _ _ _ hs hg hr =>
  ⟨hs.1, hs.2.1.own hg (fun r e => (hr r e).2), hs.2.2.own hg (fun r e => (hr r e).1)⟩
/-- Where a round leaves the loop. -/
def Ixt (N : Int) (b6 b7 : Nat) (W0 : World) (c : Code) (pre : List (Int × Int)) (W : World) : Prop :=
  c = .ret ∧ (∃ p x, pre = p ++ [x] ∧ N ≤ x.2 ∧ (∀ y ∈ p, y.2 < N) ∧ Mb W b6 b7 x.1 0) ∧ Wx (fun k => k = b6 ∨ k = b7) W0 W
theorem Ixt.own (N : Int) (b6 b7 : Nat) (W0 : World) (c : Code) : OwnFrom W0.heap.size (Ixt N b6 b7 W0 c) := fun _ _ _ _ hs hg hr => by
  obtain ⟨h1, ⟨p, x, h2, h3, h4, h5⟩, h6⟩ := hs
  exact ⟨h1, ⟨p, x, h2, h3, h4, h5.own hg (fun r e => (hr r e).2)⟩, h6.own hg (fun r e => (hr r e).1)⟩

set_option maxHeartbeats 4000000 in
set_option maxRecDepth 100000 in
theorem Trigger_ok (adr : Option Addr) (n c : Nat) (P T : Nat → Int) (N wi : Int) (w : World) (hr : RdM w adr n P T) (hw : WfH n P T) (V : VH n P T) (hb : 0 ≤ wi ∧ wi ≤ 2000) (hN : 1 ≤ N ∧ N ≤ 14) :
    Calls Tryd.prog 51 #[.slice adr n c, .int .i64 N, .int .i64 wi] w fun e w' => ∃ t E, IsT T (cI T n wi) n N t E ∧ RetTr t E w e w' := by
  have hn := V.few
  have h1 := V.pos
  have CV := Lib.hid (fun w1 (k : Gr w w1) => Valid_any adr n c P T w1 (by omega) hw (hr.gr k))
  rw [vH_iff.2 V] at CV
  have CW := Lib.hid (fun w1 => isWithin_any wi w1)
  rw [show btw 0 wi 2000 = true by unfold btw; simp [hb.1, hb.2]] at CW
  have CB := Lib.hid (fun w1 => between_any 1 N 14 w1)
  rw [show btw 1 N 14 = true by unfold btw; simp [hN.1, hN.2]] at CB
  have HR := Lib.hid hr
  have VT := Lib.hid (show ∀ i, i < n → -1000 ≤ T i ∧ T i ≤ 1000 from fun i hi => (V.ok i hi).2.2)
  clear hr hw V
  obtain ⟨W1, hW1⟩ : ∃ W1, ((w.alloc (.cells #[.int .i64 N] 3)).alloc (.cells #[.int .i64 0] 3)).alloc (.cells #[.int .i64 0] 26) = W1 := ⟨_, rfl⟩
  have G1 := Lib.hid (show Gr w W1 by rw [← hW1]; exact (((Gr.refl w).alloc _).alloc _).alloc _)
  have B4 := Lib.hid (show W1.cell? ⟨w.heap.size, 0, none⟩ = some (.int .i64 N) by rw [← hW1]; exact ((((Gr.refl _).alloc _).alloc _).fresh' rfl rfl).1)
  have B6 := Lib.hid (show W1.cell? ⟨w.heap.size + 1, 0, none⟩ = some (.int .i64 0) ∧ W1.frozen? ⟨w.heap.size + 1, 0, none⟩ = false by rw [← hW1]; exact ((Gr.refl _).alloc _).fresh' (by simp) rfl)
  have B7 := Lib.hid (show W1.cell? ⟨w.heap.size + 1 + 1, 0, none⟩ = some (.int .i64 0) ∧ W1.frozen? ⟨w.heap.size + 1 + 1, 0, none⟩ = false by rw [← hW1]; exact (Gr.refl _).fresh' (by simp) rfl)
  have n4 := B4.out
  refine (callsIn_wide (n := 3)).1 ?_
  refine callsIn_of_wp_marks Tryd.func51 rfl trivial ?_ rfl
  simp only [Tryd.ntmps51, List.size_toArray, List.length_cons, List.length_nil, Nat.reduceAdd, Nat.reduceSub, Array.replicate_succ, Array.replicate_zero, List.push_toArray, List.append_toArray, List.nil_append, List.cons_append]
  gi_wp2_with (first
    | (gi_at_call 26; refine (callsIn_wide.2 (CV.out _ G1.out)).mono ?_; rintro e w2 ⟨rfl, g2⟩; have G2 := Lib.hid (G1.out.trans g2); have M2 := Lib.hid (show Mb w2 (w.heap.size + 1) (w.heap.size + 1 + 1) 0 0 from (Mb.mk B6.out.1 B6.out.2 B7.out.1 B7.out.2).gr g2); have n4 := g2.cell n4; have N4 := Lib.hid n4; clear g2)
    | (gi_at_call 90; refine (callsIn_wide.2 (CW.out _)).mono ?_; rintro e w3 ⟨rfl, rfl⟩)
    | (gi_at_call 71; refine (callsIn_wide.2 (CB.out _)).mono ?_; rintro e w3 ⟨rfl, rfl⟩)
    | (gi_at_call 91; refine (callsIn_wide.2 (counts_any _ _ _ _ _)).mono ?_; rintro e w4 ⟨rfl, rfl⟩))
  have sz : w.heap.size + 1 + 1 < w2.heap.size := World.block_lt_of_cell? _ _ M2.out.c5
  generalize hW0 : ((w2.alloc _).alloc _) = W0
  have S0 : W0.heap.size = w2.heap.size + 2 := by rw [← hW0]; simp
  have G20 := Lib.hid (show Gr w2 W0 by rw [← hW0]; exact ((Gr.refl w2).alloc _).alloc _)
  have BH := Lib.hid (show W0.cell? ⟨w2.heap.size, 0, none⟩ = some (.slice adr n c) by rw [← hW0]; exact (((Gr.refl _).alloc _).fresh' rfl rfl).1)
  have BW := Lib.hid (show W0.cell? ⟨w2.heap.size + 1, 0, none⟩ = some (.int .i64 wi) by rw [← hW0]; exact ((Gr.refl _).fresh' (by simp) rfl).1)
  have M0 := Lib.hid (M2.out.gr G20.out)
  have BN := Lib.hid (G20.out.cell N4.out)
  have G0 := Lib.hid (G2.out.trans G20.out)
  clear hW0
  refine wpIn_rangeFunc_ownF rfl (by omega) (gf := 107) (lb := #[.pointer (some ⟨w2.heap.size, 0, none⟩), .pointer (some ⟨w2.heap.size + 1, 0, none⟩)]) rfl trivial (enters_of Tryd.func107 (by kernel_rfl) rfl)
    (counts1_seq (K := fun k => k ≠ w.heap.size + 1 ∧ k ≠ w.heap.size + 1 + 1) _ (by omega) w2.heap.size (w2.heap.size + 1) adr n c P T wi W0 h1 hn VT.out hb BH.out BW.out (HR.out.gr G0.out) (by omega) (fun k hk => by omega))
    Kc.trans (fun W l o o' _ h hc _ => Kc.putObj W l o o' h hc) (Below.refl _ _) (fun _ => rfl)
    (It N (w.heap.size + 1) (w.heap.size + 1 + 1) W0) (Ixt N (w.heap.size + 1) (w.heap.size + 1 + 1) W0) (It.own _ _ _ W0) (fun c => Ixt.own _ _ _ W0 c)
    ⟨fun _ h => absurd h (by simp), M0.out, Wx.refl _ _⟩
    (fun x => { tmps := #[.slice adr n c, .int .i64 N, .int .i64 wi, undef, .pointer (some ⟨w.heap.size, 0, none⟩), undef, .pointer (some ⟨w.heap.size + 1, 0, none⟩), .pointer (some ⟨w.heap.size + 1 + 1, 0, none⟩), .int .i64 x.1, .int .i64 x.2, .bool false, .slice adr n c, .bool true, .bool false, .bool false, .int .i64 wi, .bool true, .bool false, .bool false, .int .i64 N, .bool true, .bool false, .bool false, .slice adr n c, .int .i64 wi, .func (.func 107) #[] #[.pointer (some ⟨w2.heap.size, 0, none⟩), .pointer (some ⟨w2.heap.size + 1, 0, none⟩)], .int .i64 x.1, .int .i64 x.2, undef, undef, undef, undef], defers := [] }) ?assign ?body ?done ?stop
  case assign =>
    intro l x W K hK
    unfold encP
    gi_wp2
    exact hK
  case body =>
    rintro l pre ⟨t, q⟩ W ⟨hp, hM, hX⟩ _
    dsimp only
    have bn := hX.cell BN.out (by show ¬ (w.heap.size = w.heap.size + 1 ∨ w.heap.size = w.heap.size + 1 + 1); omega)
    obtain ⟨c4, f4, c5, f5⟩ := hM
    have HX := Lib.hid hX
    have HP := Lib.hid hp
    have M4 := Lib.hid (Mb.mk c4 f4 c5 f5)
    clear hX hp
    by_cases hlt : N ≤ q
    · have hgt : q ≥ N := hlt
      gi_wp2
      have hw : Wx (fun k => k = w.heap.size + 1 ∨ k = w.heap.size + 1 + 1) W ((W.setCell ⟨w.heap.size + 1, 0, none⟩ (.int .i64 t)).setCell ⟨w.heap.size + 1 + 1, 0, none⟩ (.int .i64 0)) := ((Wx.refl _ W).set (.inl rfl) 0 _).set (.inr rfl) 0 _
      exact ⟨(KeepsOthers.setCell _ _ _).trans (KeepsOthers.setCell _ _ _), rfl, ⟨pre, (t, q), rfl, hlt, HP.out, M4.out.put (by omega) t 0⟩, HX.out.trans hw⟩
    · have hgt : ¬ q ≥ N := hlt
      have hlt' : q < N := by omega
      gi_wp2
      exact ⟨KeepsOthers.refl _, fun _ _ _ e => e, fun y hy => (List.mem_append.1 hy).elim (HP.out y) (fun e => by simp at e; subst e; exact hlt'), M4.out, HX.out⟩
  case done =>
    rintro D ys W hD rfl ⟨hp, hM, hX⟩ hK
    have GW := Lib.hid (hX.gr G0.out (fun k hk => by omega))
    have R := Lib.hid (trig_none hp).sorted
    have MM := Lib.hid hM
    have HK := Lib.hid hK
    obtain ⟨c4, f4, c5, f5⟩ := hM
    have N1 : w.heap.size + 1 ≠ w.heap.size + 1 + 1 := by omega
    have N2 : D ≠ w.heap.size + 1 := by omega
    have N3 : D ≠ w.heap.size + 1 + 1 := by omega
    clear hp hX hK
    gi_wp2
    have m4 := MM.out.put N1 0 5
    have gw := (GW.out.setCell (p := ⟨w.heap.size + 1, 0, none⟩) (by first | (simp; done) | omega | (simp; omega)) (.int .i64 0)).setCell (p := ⟨w.heap.size + 1 + 1, 0, none⟩) (by first | (simp; done) | omega | (simp; omega)) (.int .i64 5)
    have hd : ((W.setCell ⟨w.heap.size + 1, 0, none⟩ (.int .i64 0)).setCell ⟨w.heap.size + 1 + 1, 0, none⟩ (.int .i64 5)).heap[D]? = some (.deferred (some [])) := (Below.heap_setCell _ _ _ _ N3).trans ((Below.heap_setCell _ _ _ _ N2).trans HK.out)
    refine ⟨by simp, .inl ⟨_, _, rfl, run_takeDeferred hd, ?_⟩⟩
    have gp := fun W' => grownBy_putObj' W' D (.deferred none)
    have kp : ∀ W' : World, W'.heap[D]? = some (.deferred (some [])) → ∀ r, some D = some r → ∃ o : Obj, W'.heap[r]? = some o ∧ o.isCells = false := fun W' h r er => by cases er; exact ⟨_, h, rfl⟩
    have m5 := m4.own (gp _) (kp _ hd)
    have c6 := m5.c4
    have c7 := m5.c5
    have GP := gw.grown (gp _) (fun k er => by cases er; omega)
    exact ⟨_, by simp [results, Tryd.f51, go_sem, c6, c7], 0, 5, R.out, rfl, GP⟩
  case stop =>
    rintro D c pre W hD ⟨k, hk, e⟩ ⟨rfl, ⟨p, x, e2, hx, hp, hM⟩, hX⟩ hK
    have ee := List.append_inj' (e.symm.trans e2) rfl
    obtain ⟨rfl, e4⟩ := ee
    simp only [List.cons.injEq, and_true] at e4
    subst e4
    have GW := Lib.hid (hX.gr G0.out (fun k hk => by omega))
    have R := Lib.hid (trig_stop (S := srF T n) (fun i j hij hj => srF_mono hij hj) hk hx hp).sorted
    dsimp only at hM
    have HK := Lib.hid hK
    have MM := Lib.hid hM
    clear hX hM hK e e2 hp
    gi_wp2
    refine ⟨by simp, .inl ⟨_, _, rfl, run_takeDeferred HK.out, ?_⟩⟩
    have gp := grownBy_putObj' W D (.deferred none)
    have kp : ∀ r, some D = some r → ∃ o : Obj, W.heap[r]? = some o ∧ o.isCells = false := fun r er => by cases er; exact ⟨_, HK.out, rfl⟩
    have m5 := MM.out.own gp kp
    have c6 := m5.c4
    have c7 := m5.c5
    have GP := GW.out.grown gp (fun k er => by cases er; omega)
    exact ⟨_, by simp [results, Tryd.f51, go_sem, c6, c7], _, 0, R.out, rfl, GP⟩

end Go.Proofs.YtjokheeegcilhaaDoor
