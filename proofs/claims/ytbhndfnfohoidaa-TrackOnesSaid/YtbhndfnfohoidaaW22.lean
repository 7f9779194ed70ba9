/- Contracts of chapter 5: a line with the least cost, of the program. -/
import Derived.Test.YtbhndfnfohoidaaP6
import Derived.Test.YtbhndfnfohoidaaRhe
import Derived.Sort.CutIn
namespace Go.Proofs.Ytbhndfnfohoidaa
open Go.RowKit Go.Firn Go.Shelf
attribute [local go_sem] Oper.semAt_some
attribute [local simp] wide_fn

theorem pairs_any (a : Option Addr) (n c : Nat) (w : World) :
    Calls Try.prog 83 #[.slice a n c] w fun e w' => e = .returned (.func (.func 98) #[] #[.pointer (some ⟨w.heap.size, 0, none⟩)]) ∧ w' = w.alloc (.cells #[.slice a n c] 22) := by
  have hmf : ∀ (fn : Fn) (first cap : Array Value) (w : World), (Instr.makeFunc fn first cap).run Try.prog w = .ok (.func fn first cap) w := fun _ _ _ _ => rfl
  go_enter Try.func83, Try.ntmps83
  go_wp2_with fail
  go_ret
  exact ⟨rfl, rfl⟩

theorem Box3.own {W W' : World} {b : Nat} {x y z : Int} {row : Option Nat} (h : Box3 W b x y z) (hg : W.grownBy W' row) (hr : ∀ r, row = some r → ∃ o : Obj, W.heap[r]? = some o ∧ o.isCells = false) : Box3 W' b x y z :=
  ⟨cell_kept h.1 hg hr, cell_kept h.2.1 hg hr, cell_kept h.2.2.1 hg hr, (frozen_kept h.1 hg hr).trans h.2.2.2.1, (frozen_kept h.2.1 hg hr).trans h.2.2.2.2.1, (frozen_kept h.2.2.1 hg hr).trans h.2.2.2.2.2⟩
/-- The caller's invariant. -/
def Ip (n : Nat) (X Y : Nat → Int) (b3 : Nat) (W0 : World) (pre : List (Nat × Nat)) (W : World) : Prop :=
  Box3 W b3 (oA X Y (bst n X Y pre)) (oB X Y (bst n X Y pre)) (oD X Y (bst n X Y pre)) ∧ Wx (fun k => k = b3) W0 W ∧ ∀ q ∈ pre, IsPr n X q
theorem Ip.own (n : Nat) (X Y : Nat → Int) (b3 : Nat) (W0 : World) : OwnFrom W0.heap.size (Ip n X Y b3 W0) := fun _ _ _ _ hs hg hr => by
  obtain ⟨h1, h2, h3⟩ := hs
  exact ⟨Box3.own h1 hg (fun r e => (hr r e).2), h2.own hg (fun r e => (hr r e).1), h3⟩

/-- The end of a round in which the pair is taken. -/
theorem best_take {n b3 : Nat} {X Y : Nat → Int} {W0 W w2 : World} {pre : List (Nat × Nat)} {q : Nat × Nat} {x y z : Int}
    (hX : Wx (fun k => k = b3) W0 W) (g2 : Gr W w2) (hl : ∀ r ∈ pre ++ [q], IsPr n X r) (hs : bst n X Y (pre ++ [q]) = some q) (B : Box3 w2 b3 x y z) {W' : World}
    (hW' : Gr (((w2.setCell ⟨b3, 0, none⟩ (.int .i64 (pA X Y q))).setCell ⟨b3, 1, none⟩ (.int .i64 (pB X Y q))).setCell ⟨b3, 2, none⟩ (.int .i64 (pD X Y q))) W') :
    KeepsOthers W W' ∧ Kc (fun k => k ≠ b3) W W' ∧ Ip n X Y b3 W0 (pre ++ [q]) W' := by
  have hw : Wx (fun k => k = b3) W W' := ((((Wx.of_gr (X := fun k => k = b3) g2).set rfl 0 _).set rfl 1 _).set rfl 2 _).trans (Wx.of_gr hW')
  have hk : KeepsOthers W W' := ((((Gr.others g2).trans (KeepsOthers.setCell _ _ _)).trans (KeepsOthers.setCell _ _ _)).trans (KeepsOthers.setCell _ _ _)).trans (Gr.others hW')
  refine ⟨hk, fun p v hp e => hw.cell e (fun h => hp h), ?_, hX.trans hw, hl⟩
  rw [hs]
  exact (Box3.put B _ _ _).gr hW'
theorem best_keep {n b3 : Nat} {X Y : Nat → Int} {W0 W : World} {pre : List (Nat × Nat)} {q : Nat × Nat} {s : Option (Nat × Nat)}
    (hX : Wx (fun k => k = b3) W0 W) (hl : ∀ r ∈ pre ++ [q], IsPr n X r) (hs : bst n X Y (pre ++ [q]) = s) (B : Box3 W b3 (oA X Y s) (oB X Y s) (oD X Y s)) {W' : World} (g : Gr W W') :
    KeepsOthers W W' ∧ Kc (fun k => k ≠ b3) W W' ∧ Ip n X Y b3 W0 (pre ++ [q]) W' := by
  refine ⟨Gr.others g, fun p v _ e => g.cell e, ?_, hX.trans (Wx.of_gr g), hl⟩
  rw [hs]
  exact B.gr g
theorem best_end {b2 D : Nat} {w W W1 W' : World} {A B C : Int} (hb2 : w.heap.size ≤ b2) (hD : w.heap.size ≤ D) (hD2 : D ≠ b2) (g : Gr w W) (Bx : Box3 W b2 0 0 0) (hK : W.heap[D]? = some (.deferred (some [])))
    (e1 : W1 = ((W.setCell ⟨b2, 0, none⟩ (.int .i64 A)).setCell ⟨b2, 1, none⟩ (.int .i64 B)).setCell ⟨b2, 2, none⟩ (.int .i64 C)) (e : W' = W1.putObj D (.deferred none)) :
    W1.heap[D]? = some (.deferred (some [])) ∧ Box3 W' b2 A B C ∧ Gr w W' := by
  have hK1 : W1.heap[D]? = some (.deferred (some [])) := by
    rw [e1, Below.heap_setCell _ _ _ _ hD2, Below.heap_setCell _ _ _ _ hD2, Below.heap_setCell _ _ _ _ hD2]; exact hK
  have B1 : Box3 W1 b2 A B C := by rw [e1]; exact Box3.put Bx _ _ _
  have G1 : Gr w W1 := by rw [e1]; exact ((g.setAt hb2 _).setAt hb2 _).setAt hb2 _
  have gp := grownBy_putObj' W1 D (.deferred none)
  have kp : ∀ r, some D = some r → ∃ o : Obj, W1.heap[r]? = some o ∧ o.isCells = false := fun r er => by cases er; exact ⟨_, hK1, rfl⟩
  rw [← e] at gp
  exact ⟨hK1, Box3.own B1 gp kp, G1.grown gp (fun k er => by cases er; exact hD)⟩

set_option maxHeartbeats 4000000 in
set_option maxRecDepth 100000 in
theorem best_any (b o n c : Nat) (X Y : Nat → Int) (V : VP n X Y) (w : World) (hr : RdM w (some ⟨b, o, none⟩) n X Y) :
    Calls Try.prog 60 #[.slice (some ⟨b, o, none⟩) n c] w (RetL (oA X Y (bst n X Y (prs X n))) (oB X Y (bst n X Y (prs X n))) (oD X Y (bst n X Y (prs X n))) w) := by
  have HV := Lib.hid V
  have n2 := V.two
  have n12 := V.few
  have HR := Lib.hid hr
  clear V hr
  refine (callsIn_wide (n := 3)).1 ?_
  refine callsIn_of_wp_marks Try.func60 rfl trivial ?_ rfl
  simp only [Try.ntmps60, List.size_toArray, List.length_cons, List.length_nil, Nat.reduceAdd, Nat.reduceSub, Array.replicate_succ, Array.replicate_zero, List.push_toArray, List.append_toArray, List.nil_append, List.cons_append]
  gi_wp2_with (gi_at_call 83; refine (callsIn_wide.2 (pairs_any _ _ _ _)).mono ?_; rintro e w' ⟨rfl, rfl⟩)
  generalize hW0 : (((w.alloc _).alloc _).alloc _).alloc _ = W0
  have S0 : W0.heap.size = w.heap.size + 4 := by rw [← hW0]; simp
  have G0 := Lib.hid (show Gr w W0 by rw [← hW0]; exact ((((Gr.refl w).alloc _).alloc _).alloc _).alloc _)
  have B1 := Lib.hid (show W0.cell? ⟨w.heap.size, 0, none⟩ = some (.slice (some ⟨b, o, none⟩) n c) by rw [← hW0]; exact ((((Gr.refl _).alloc _).alloc _).alloc _).fresh' (by simp) rfl |>.1)
  have B2 := Lib.hid (show Box3 W0 (w.heap.size + 1) 0 0 0 by rw [← hW0]; exact (Box3.new (by simp)).gr (((Gr.refl _).alloc _).alloc _))
  have B3 := Lib.hid (show Box3 W0 (w.heap.size + 1 + 1) 0 0 0 by rw [← hW0]; exact (Box3.new (by simp)).gr ((Gr.refl _).alloc _))
  have B6 := Lib.hid (show W0.cell? ⟨w.heap.size + 1 + 1 + 1, 0, none⟩ = some (.slice (some ⟨b, o, none⟩) n c) by rw [← hW0]; exact (Gr.refl _).fresh' (by simp) rfl |>.1)
  have LB := Lib.hid (show b < w.heap.size from by obtain ⟨b', o', e, hc⟩ := HR.out.at (show 0 < n by omega); simp at e; obtain ⟨rfl, rfl⟩ := e; exact World.block_lt_of_cell? w _ (hc 0 (by omega)).1)
  clear hW0
  refine rangeFunc_mem rfl (by omega) (gf := 98) (lb := #[.pointer (some ⟨w.heap.size + 1 + 1 + 1, 0, none⟩)]) rfl trivial (enters_of Try.func98 (by kernel_rfl) rfl)
    (pairs1_seq (K := fun k => k ≠ w.heap.size + 1 + 1) _ (by omega) (w.heap.size + 1 + 1 + 1) b o n c X Y W0 n12 B6.out (HR.out.gr G0.out) (by omega) (by have := LB.out; omega))
    Kc.trans (fun W l o o' _ h hc _ => Kc.putObj W l o o' h hc) (fun x W l o o' hx h hc => hx) (Below.refl _ _) (fun _ => rfl)
    (Ip n X Y (w.heap.size + 1 + 1) W0) (Ip.own n X Y _ W0)
    ⟨B3.out, Wx.refl _ _, fun q hq => by cases hq⟩
    (fun x => { tmps := #[.slice (some ⟨b, o, none⟩) n c, .pointer (some ⟨w.heap.size, 0, none⟩), .pointer (some ⟨w.heap.size + 1, 0, none⟩), .pointer (some ⟨w.heap.size + 1 + 1, 0, none⟩), .int .i64 x.1, .int .i64 x.2, undef, .slice (some ⟨b, o, none⟩) n c, .func (.func 98) #[] #[.pointer (some ⟨w.heap.size + 1 + 1 + 1, 0, none⟩)], .int .i64 x.1, .int .i64 x.2, undef, undef, undef, undef, undef, undef, undef, undef, undef, undef, undef, undef, undef, undef, undef, undef, undef, undef, undef, undef, undef, undef, undef, undef], defers := [] }) ?assign ?body ?done
  case assign =>
    intro l x W K hK
    unfold encP
    gi_wp2
    exact hK
  case body =>
    rintro l pre x W ⟨hs, hX, hl⟩ hw
    have GW := Lib.hid (hX.gr G0.out (fun k hk => by omega))
    have CB := Lib.hid (hX.cell B1.out (by simp; omega))
    have cb := CB.out
    have WX := Lib.hid hX
    have HL := Lib.hid hl
    have HS := Lib.hid hs
    have ok := HV.out.ok
    obtain ⟨i, k⟩ := x
    have i1 : i < n := Nat.lt_trans hw.1 hw.2.1
    have k1 : k < n := hw.2.1
    have i2 : (i : Int) < n := by omega
    have k2 : (k : Int) < n := by omega
    obtain ⟨b', o', e, hc⟩ := (HR.out.gr GW.out).at i1
    simp at e
    obtain ⟨rfl, rfl⟩ := e
    obtain ⟨ci0, ci1⟩ := hc i i1
    obtain ⟨ck0, ck1⟩ := hc k k1
    have CT := Lib.hid (fun w' => through_any (X i) (Y i) (X k) (Y k) w' (ok i i1) (ok k k1) hw.2.2)
    have HW := Lib.hid hw
    clear hs hl hX ok hc hw
    have lb : b < W.heap.size := World.block_lt_of_cell? W _ ci0
    have lw : w.heap.size < W.heap.size := World.block_lt_of_cell? W _ cb
    gi_wp2
    gi_cut [6] from 11 (fun s6 wx => ∃ bx, s6 = .pointer (some ⟨bx, 0, none⟩) ∧ W.heap.size ≤ bx ∧ Gr W wx ∧ Box3 wx bx (thA (X i) (Y i) (X k) (Y k)) (thB (X i) (Y i) (X k) (Y k)) (thD (X i) (Y i) (X k) (Y k)))
    case first =>
      refine wpIn_region_held (fun w' => Gr W w') 11 (by kernel_rfl) rfl rfl ?_
      have hS : Gr W W.drew := (Gr.refl W).drew
      iterate 8 (first
        | (refine wpAnyHIn_take 0 (v := ?_) rfl (by kernel_rfl) (by kernel_rfl) (by kernel_rfl) (by decide +kernel) (fun _ _ _ h => h) (fun _ _ _ => trivial) (by rfl) (fun w' hSw => ?_) hS ?_; rotate_left 1; (focus (have cb' := hSw.cell cb; have c1 := hSw.cell ci0; have c2 := hSw.cell ci1; have c3 := hSw.cell ck0; have c4 := hSw.cell ck1; go_simp; try with_reducible rfl)); simp only [Act.put, List.setIfInBounds_toArray, List.set_cons_zero, List.set_cons_succ])
        | (refine wpAnyHIn_take 1 (v := ?_) rfl (by kernel_rfl) (by kernel_rfl) (by kernel_rfl) (by decide +kernel) (fun _ _ _ h => h) (fun _ _ _ => trivial) (by rfl) (fun w' hSw => ?_) hS ?_; rotate_left 1; (focus (have cb' := hSw.cell cb; have c1 := hSw.cell ci0; have c2 := hSw.cell ci1; have c3 := hSw.cell ck0; have c4 := hSw.cell ck1; go_simp; try with_reducible rfl)); simp only [Act.put, List.setIfInBounds_toArray, List.set_cons_zero, List.set_cons_succ])
        | (refine wpAnyHIn_take 2 (v := ?_) rfl (by kernel_rfl) (by kernel_rfl) (by kernel_rfl) (by decide +kernel) (fun _ _ _ h => h) (fun _ _ _ => trivial) (by rfl) (fun w' hSw => ?_) hS ?_; rotate_left 1; (focus (have cb' := hSw.cell cb; have c1 := hSw.cell ci0; have c2 := hSw.cell ci1; have c3 := hSw.cell ck0; have c4 := hSw.cell ck1; go_simp; try with_reducible rfl)); simp only [Act.put, List.setIfInBounds_toArray, List.set_cons_zero, List.set_cons_succ])
        | (refine wpAnyHIn_take 3 (v := ?_) rfl (by kernel_rfl) (by kernel_rfl) (by kernel_rfl) (by decide +kernel) (fun _ _ _ h => h) (fun _ _ _ => trivial) (by rfl) (fun w' hSw => ?_) hS ?_; rotate_left 1; (focus (have cb' := hSw.cell cb; have c1 := hSw.cell ci0; have c2 := hSw.cell ci1; have c3 := hSw.cell ck0; have c4 := hSw.cell ck1; go_simp; try with_reducible rfl)); simp only [Act.put, List.setIfInBounds_toArray, List.set_cons_zero, List.set_cons_succ])
        | (refine wpAnyHIn_take 4 (v := ?_) rfl (by kernel_rfl) (by kernel_rfl) (by kernel_rfl) (by decide +kernel) (fun _ _ _ h => h) (fun _ _ _ => trivial) (by rfl) (fun w' hSw => ?_) hS ?_; rotate_left 1; (focus (have cb' := hSw.cell cb; have c1 := hSw.cell ci0; have c2 := hSw.cell ci1; have c3 := hSw.cell ck0; have c4 := hSw.cell ck1; go_simp; try with_reducible rfl)); simp only [Act.put, List.setIfInBounds_toArray, List.set_cons_zero, List.set_cons_succ])
        | (refine wpAnyHIn_take 5 (v := ?_) rfl (by kernel_rfl) (by kernel_rfl) (by kernel_rfl) (by decide +kernel) (fun _ _ _ h => h) (fun _ _ _ => trivial) (by rfl) (fun w' hSw => ?_) hS ?_; rotate_left 1; (focus (have cb' := hSw.cell cb; have c1 := hSw.cell ci0; have c2 := hSw.cell ci1; have c3 := hSw.cell ck0; have c4 := hSw.cell ck1; go_simp; try with_reducible rfl)); simp only [Act.put, List.setIfInBounds_toArray, List.set_cons_zero, List.set_cons_succ])
        | (refine wpAnyHIn_take 6 (v := ?_) rfl (by kernel_rfl) (by kernel_rfl) (by kernel_rfl) (by decide +kernel) (fun _ _ _ h => h) (fun _ _ _ => trivial) (by rfl) (fun w' hSw => ?_) hS ?_; rotate_left 1; (focus (have cb' := hSw.cell cb; have c1 := hSw.cell ci0; have c2 := hSw.cell ci1; have c3 := hSw.cell ck0; have c4 := hSw.cell ck1; go_simp; try with_reducible rfl)); simp only [Act.put, List.setIfInBounds_toArray, List.set_cons_zero, List.set_cons_succ])
        | (refine wpAnyHIn_take 7 (v := ?_) rfl (by kernel_rfl) (by kernel_rfl) (by kernel_rfl) (by decide +kernel) (fun _ _ _ h => h) (fun _ _ _ => trivial) (by rfl) (fun w' hSw => ?_) hS ?_; rotate_left 1; (focus (have cb' := hSw.cell cb; have c1 := hSw.cell ci0; have c2 := hSw.cell ci1; have c3 := hSw.cell ck0; have c4 := hSw.cell ck1; go_simp; try with_reducible rfl)); simp only [Act.put, List.setIfInBounds_toArray, List.set_cons_zero, List.set_cons_succ]))
      refine wpAnyHIn_ready [8, 9] (by kernel_rfl) (by simp) ?_
      refine AllHIn.cons rfl (by rfl) (fun K hK => ?_) (AllHIn.cons rfl (by rfl) (fun K hK => ?_) AllHIn.nil)
      · go_simp
        refine (CallsIn.inRound l (callsIn_wide.2 (CT.out _))).mono ?_
        rintro e w3 ⟨rfl, g3⟩
        have g4 : Gr W w3 := hS.trans g3
        refine hK.out _ _ g4 ?_
        refine wpAnyHIn_ready [9] (by kernel_rfl) (by simp) ?_
        refine AllHIn.cons rfl (by rfl) (fun K2 hK2 => ?_) AllHIn.nil
        go_simp
        refine hK2.out _ _ (g4.alloc _) ?_
        refine wpAnyHIn_ready [10] (by kernel_rfl) (by simp) ?_
        refine AllHIn.cons rfl (by rfl) (fun K3 hK3 => ?_) AllHIn.nil
        go_simp
        refine hK3.out _ _ (g4.alloc _) ?_
        refine wpAnyHIn_done (by kernel_rfl) ?_ _
        gi_wp2
        gi_meet
        exact ⟨_, rfl, g4.size, g4.alloc _, Box3.new rfl⟩
      · go_simp
        have g4 := hS.alloc (.cells #[.int .i64 0, .int .i64 0, .int .i64 0] 37)
        refine hK.out _ _ g4 ?_
        refine wpAnyHIn_ready [8] (by kernel_rfl) (by simp) ?_
        refine AllHIn.cons rfl (by rfl) (fun K2 hK2 => ?_) AllHIn.nil
        go_simp
        refine (CallsIn.inRound l (callsIn_wide.2 (CT.out _))).mono ?_
        rintro e w3 ⟨rfl, g3⟩
        have hb := Box3.gr (Box3.new (w := W) (e := 37) (x := 0) (y := 0) (z := 0) rfl) (((Gr.refl _).drew).trans g3)
        obtain ⟨y0, y1, y2, y3, y4, y5⟩ := hb
        refine hK2.out _ _ (g4.trans g3) ?_
        refine wpAnyHIn_ready [10] (by kernel_rfl) (by simp) ?_
        refine AllHIn.cons rfl (by rfl) (fun K3 hK3 => ?_) AllHIn.nil
        go_simp
        refine hK3.out _ _ ((((g4.trans g3).setAt (Nat.le_refl _) _).setAt (Nat.le_refl _) _).setAt (Nat.le_refl _) _) ?_
        refine wpAnyHIn_done (by kernel_rfl) ?_ _
        gi_wp2
        gi_meet
        exact ⟨_, rfl, Nat.le_refl _, (((g4.trans g3).setAt (Nat.le_refl _) _).setAt (Nat.le_refl _) _).setAt (Nat.le_refl _) _, Box3.put ⟨y0, y1, y2, y3, y4, y5⟩ _ _ _⟩
    case rest =>
      obtain ⟨bx, rfl, hbx, gw, hb6⟩ := hcut
      have GC := Lib.hid (GW.out.trans gw)
      have HB6 := Lib.hid hb6
      have b3 := HS.out.gr gw
      have HB3 := Lib.hid b3
      have cb' := gw.cell cb
      have W1 := Lib.hid gw
      obtain ⟨x0, x1, x2, x3, x4, x5⟩ := hb6
      have SN := Lib.hid (bst_snoc n X Y pre (i, k))
      have HI := Lib.hid (show ∀ q ∈ pre ++ [(i, k)], IsPr n X q from fun q hq => by
        rcases List.mem_append.1 hq with hq | hq
        · exact HL.out q hq
        · obtain rfl := List.mem_singleton.1 hq
          exact HW.out)
      have hpre := HL.out
      clear ci0 ci1 ck0 ck1 cb CB CT gw i2 k2 lb lw
      cases hs : bst n X Y pre with
      | none =>
        rw [hs] at b3 SN HB3
        have ST := Lib.hid (SN.out.trans (show pstep n X Y none (i, k) = some (i, k) from rfl))
        obtain ⟨y0, y1, y2, y3, y4, y5⟩ := b3
        simp only [oA, oB, oD] at y0 y1 y2
        gi_wp2
        refine wpIn_region_held (fun w' => w' = wc.drew) 13 (by kernel_rfl) rfl rfl ?_
        have hS : wc.drew = wc.drew := rfl
        iterate 4 (first
          | (refine wpAnyHIn_take 0 (v := ?_) rfl (by kernel_rfl) (by kernel_rfl) (by kernel_rfl) (by decide +kernel) (fun _ _ _ h => h) (fun _ _ _ => trivial) (by rfl) (fun w' hSw => ?_) hS ?_; rotate_left 1; (focus (subst hSw; go_simp; try with_reducible rfl)); simp only [Act.put, List.setIfInBounds_toArray, List.set_cons_zero, List.set_cons_succ])
          | (refine wpAnyHIn_take 1 (v := ?_) rfl (by kernel_rfl) (by kernel_rfl) (by kernel_rfl) (by decide +kernel) (fun _ _ _ h => h) (fun _ _ _ => trivial) (by rfl) (fun w' hSw => ?_) hS ?_; rotate_left 1; (focus (subst hSw; go_simp; try with_reducible rfl)); simp only [Act.put, List.setIfInBounds_toArray, List.set_cons_zero, List.set_cons_succ])
          | (refine wpAnyHIn_take 2 (v := ?_) rfl (by kernel_rfl) (by kernel_rfl) (by kernel_rfl) (by decide +kernel) (fun _ _ _ h => h) (fun _ _ _ => trivial) (by rfl) (fun w' hSw => ?_) hS ?_; rotate_left 1; (focus (subst hSw; go_simp; try with_reducible rfl)); simp only [Act.put, List.setIfInBounds_toArray, List.set_cons_zero, List.set_cons_succ])
          | (refine wpAnyHIn_take 3 (v := ?_) rfl (by kernel_rfl) (by kernel_rfl) (by kernel_rfl) (by decide +kernel) (fun _ _ _ h => h) (fun _ _ _ => trivial) (by rfl) (fun w' hSw => ?_) hS ?_; rotate_left 1; (focus (subst hSw; go_simp; try with_reducible rfl)); simp only [Act.put, List.setIfInBounds_toArray, List.set_cons_zero, List.set_cons_succ]))
        iterate 8 (first
          | (refine wpAnyHIn_skip 4 rfl (by kernel_rfl) (by kernel_rfl) (by kernel_rfl) (by decide +kernel) (fun _ _ _ h => h) (fun _ _ _ => trivial) (by rfl) hS ?_; simp only [Act.put, List.setIfInBounds_toArray, List.set_cons_zero, List.set_cons_succ])
          | (refine wpAnyHIn_skip 5 rfl (by kernel_rfl) (by kernel_rfl) (by kernel_rfl) (by decide +kernel) (fun _ _ _ h => h) (fun _ _ _ => trivial) (by rfl) hS ?_; simp only [Act.put, List.setIfInBounds_toArray, List.set_cons_zero, List.set_cons_succ])
          | (refine wpAnyHIn_skip 6 rfl (by kernel_rfl) (by kernel_rfl) (by kernel_rfl) (by decide +kernel) (fun _ _ _ h => h) (fun _ _ _ => trivial) (by rfl) hS ?_; simp only [Act.put, List.setIfInBounds_toArray, List.set_cons_zero, List.set_cons_succ])
          | (refine wpAnyHIn_skip 7 rfl (by kernel_rfl) (by kernel_rfl) (by kernel_rfl) (by decide +kernel) (fun _ _ _ h => h) (fun _ _ _ => trivial) (by rfl) hS ?_; simp only [Act.put, List.setIfInBounds_toArray, List.set_cons_zero, List.set_cons_succ])
          | (refine wpAnyHIn_skip 8 rfl (by kernel_rfl) (by kernel_rfl) (by kernel_rfl) (by decide +kernel) (fun _ _ _ h => h) (fun _ _ _ => trivial) (by rfl) hS ?_; simp only [Act.put, List.setIfInBounds_toArray, List.set_cons_zero, List.set_cons_succ])
          | (refine wpAnyHIn_skip 9 rfl (by kernel_rfl) (by kernel_rfl) (by kernel_rfl) (by decide +kernel) (fun _ _ _ h => h) (fun _ _ _ => trivial) (by rfl) hS ?_; simp only [Act.put, List.setIfInBounds_toArray, List.set_cons_zero, List.set_cons_succ])
          | (refine wpAnyHIn_skip 10 rfl (by kernel_rfl) (by kernel_rfl) (by kernel_rfl) (by decide +kernel) (fun _ _ _ h => h) (fun _ _ _ => trivial) (by rfl) hS ?_; simp only [Act.put, List.setIfInBounds_toArray, List.set_cons_zero, List.set_cons_succ])
          | (refine wpAnyHIn_skip 11 rfl (by kernel_rfl) (by kernel_rfl) (by kernel_rfl) (by decide +kernel) (fun _ _ _ h => h) (fun _ _ _ => trivial) (by rfl) hS ?_; simp only [Act.put, List.setIfInBounds_toArray, List.set_cons_zero, List.set_cons_succ]))
        iterate 1 (first
          | (refine wpAnyHIn_take 12 (v := ?_) rfl (by kernel_rfl) (by kernel_rfl) (by kernel_rfl) (by decide +kernel) (fun _ _ _ h => h) (fun _ _ _ => trivial) (by rfl) (fun w' hSw => ?_) hS ?_; rotate_left 1; (focus (subst hSw; go_simp; try with_reducible rfl)); simp only [Act.put, List.setIfInBounds_toArray, List.set_cons_zero, List.set_cons_succ]))
        refine wpAnyHIn_done (by kernel_rfl) ?_ _
        gi_wp2
        exact best_take WX.out W1.out HI.out ST.out HB3.out ((Gr.refl _).drew)
      | some q =>
        rw [hs] at b3 SN HB3
        have hq : IsPr n X q := hpre q (bst_mem hs)
        have hx := HW.out
        have ok := HV.out.ok
        obtain ⟨hl1, d1, d2⟩ := pr_in ok hq
        obtain ⟨hl2, _, _⟩ := pr_in ok hx
        have C1 := Lib.hid (fun w1 (g : Gr wc w1) => cost_any (some ⟨b, o, none⟩) n c X Y (pA X Y (i, k)) (pB X Y (i, k)) (pD X Y (i, k)) w1 n12 (HR.out.gr (GC.out.trans g)) ok hl2)
        have C2 := Lib.hid (fun w1 (g : Gr wc w1) => cost_any (some ⟨b, o, none⟩) n c X Y (pA X Y q) (pB X Y q) (pD X Y q) w1 n12 (HR.out.gr (GC.out.trans g)) ok hl1)
        have CC := Lib.hid (fun w1 => compare_any (pN n X Y (i, k)) (pE n X Y (i, k)) (pN n X Y q) (pE n X Y q) w1 (pr_sz n12 ok hx hq) (pr_sz n12 ok hq hx))
        have ST := Lib.hid (SN.out.trans (show pstep n X Y (some q) (i, k) = if pN n X Y (i, k) * pE n X Y q < pN n X Y q * pE n X Y (i, k) then some (i, k) else some q from rfl))
        have E1 : rN (sumA X Y (pA X Y (i, k)) (pB X Y (i, k)) (pD X Y (i, k)) n) (pD X Y (i, k)) = pN n X Y (i, k) := rfl
        have E2 : rD (sumA X Y (pA X Y (i, k)) (pB X Y (i, k)) (pD X Y (i, k)) n) (pD X Y (i, k)) = pE n X Y (i, k) := rfl
        have E3 : rN (sumA X Y (pA X Y q) (pB X Y q) (pD X Y q) n) (pD X Y q) = pN n X Y q := rfl
        have E4 : rD (sumA X Y (pA X Y q) (pB X Y q) (pD X Y q) n) (pD X Y q) = pE n X Y q := rfl
        have E5 : thA (X i) (Y i) (X k) (Y k) = pA X Y (i, k) := rfl
        have E6 : thB (X i) (Y i) (X k) (Y k) = pB X Y (i, k) := rfl
        have E7 : thD (X i) (Y i) (X k) (Y k) = pD X Y (i, k) := rfl
        rw [E1, E2] at C1
        rw [E3, E4] at C2
        rw [E5] at x0 HB6
        rw [E6] at x1 HB6
        rw [E7] at x2 HB6
        have T3 : cmpI (pN n X Y (i, k) * pE n X Y q) (pN n X Y q * pE n X Y (i, k)) = -1 ∧ bst n X Y (pre ++ [(i, k)]) = some (i, k) ∨ (cmpI (pN n X Y (i, k) * pE n X Y q) (pN n X Y q * pE n X Y (i, k)) = 0 ∨ cmpI (pN n X Y (i, k) * pE n X Y q) (pN n X Y q * pE n X Y (i, k)) = 1) ∧ bst n X Y (pre ++ [(i, k)]) = some q := by
          rw [ST.out]
          unfold cmpI
          by_cases h : pN n X Y (i, k) * pE n X Y q < pN n X Y q * pE n X Y (i, k)
          · exact .inl ⟨if_pos h, if_pos h⟩
          · refine .inr ⟨?_, if_neg h⟩
            rw [if_neg h]
            split
            · exact .inr rfl
            · exact .inl rfl
        have T3 := Lib.hid T3
        clear hl1 hl2 hx hq ST SN E1 E2 E3 E4 E5 E6 E7 hpre
        have RN : Hid (oA X Y (some q) = pA X Y q ∧ oB X Y (some q) = pB X Y q ∧ oD X Y (some q) = pD X Y q) := Lib.hid ⟨rfl, rfl, rfl⟩
        obtain ⟨y0, y1, y2, y3, y4, y5⟩ := b3
        simp only [oA, oB, oD] at y0 y1 y2
        generalize hq1 : pA X Y q = qA at *
        generalize hq2 : pB X Y q = qB at *
        generalize hq3 : pD X Y q = qD at *
        generalize hk1 : pA X Y (i, k) = kA at *
        generalize hk2 : pB X Y (i, k) = kB at *
        generalize hk3 : pD X Y (i, k) = kD at *
        generalize pN n X Y (i, k) = kN at *
        generalize pE n X Y (i, k) = kE at *
        generalize pN n X Y q = qN at *
        generalize pE n X Y q = qE at *
        have dz : (qD == 0) = false := by simp; omega
        have hG := Gr.refl wc
        have T30 := T3.out
        rcases T30 with ⟨cv, st⟩ | ⟨cv, st⟩
        · have ST := Lib.hid st
          have CV := cv
          clear cv st
          gi_wp2
          refine wpIn_region_held (fun w' => Gr wc w') 13 (by kernel_rfl) rfl rfl ?_
          have hS : Gr wc wc.drew := hG.drew
          iterate 8 (first
            | (refine wpAnyHIn_take 0 (v := ?_) rfl (by kernel_rfl) (by kernel_rfl) (by kernel_rfl) (by decide +kernel) (fun _ _ _ h => h) (fun _ _ _ => trivial) (by rfl) (fun w' hSw => ?_) hS ?_; rotate_left 1; (focus (have z0 := hSw.cell cb'; have z1 := hSw.cell x0; have z2 := hSw.cell x1; have z3 := hSw.cell x2; have z4 := hSw.cell y0; have z5 := hSw.cell y1; have z6 := hSw.cell y2; go_simp; try with_reducible rfl)); simp only [Act.put, List.setIfInBounds_toArray, List.set_cons_zero, List.set_cons_succ])
            | (refine wpAnyHIn_take 1 (v := ?_) rfl (by kernel_rfl) (by kernel_rfl) (by kernel_rfl) (by decide +kernel) (fun _ _ _ h => h) (fun _ _ _ => trivial) (by rfl) (fun w' hSw => ?_) hS ?_; rotate_left 1; (focus (have z0 := hSw.cell cb'; have z1 := hSw.cell x0; have z2 := hSw.cell x1; have z3 := hSw.cell x2; have z4 := hSw.cell y0; have z5 := hSw.cell y1; have z6 := hSw.cell y2; go_simp; try with_reducible rfl)); simp only [Act.put, List.setIfInBounds_toArray, List.set_cons_zero, List.set_cons_succ])
            | (refine wpAnyHIn_take 2 (v := ?_) rfl (by kernel_rfl) (by kernel_rfl) (by kernel_rfl) (by decide +kernel) (fun _ _ _ h => h) (fun _ _ _ => trivial) (by rfl) (fun w' hSw => ?_) hS ?_; rotate_left 1; (focus (have z0 := hSw.cell cb'; have z1 := hSw.cell x0; have z2 := hSw.cell x1; have z3 := hSw.cell x2; have z4 := hSw.cell y0; have z5 := hSw.cell y1; have z6 := hSw.cell y2; go_simp; try with_reducible rfl)); simp only [Act.put, List.setIfInBounds_toArray, List.set_cons_zero, List.set_cons_succ])
            | (refine wpAnyHIn_take 3 (v := ?_) rfl (by kernel_rfl) (by kernel_rfl) (by kernel_rfl) (by decide +kernel) (fun _ _ _ h => h) (fun _ _ _ => trivial) (by rfl) (fun w' hSw => ?_) hS ?_; rotate_left 1; (focus (have z0 := hSw.cell cb'; have z1 := hSw.cell x0; have z2 := hSw.cell x1; have z3 := hSw.cell x2; have z4 := hSw.cell y0; have z5 := hSw.cell y1; have z6 := hSw.cell y2; go_simp; try with_reducible rfl)); simp only [Act.put, List.setIfInBounds_toArray, List.set_cons_zero, List.set_cons_succ])
            | (refine wpAnyHIn_take 4 (v := ?_) rfl (by kernel_rfl) (by kernel_rfl) (by kernel_rfl) (by decide +kernel) (fun _ _ _ h => h) (fun _ _ _ => trivial) (by rfl) (fun w' hSw => ?_) hS ?_; rotate_left 1; (focus (have z0 := hSw.cell cb'; have z1 := hSw.cell x0; have z2 := hSw.cell x1; have z3 := hSw.cell x2; have z4 := hSw.cell y0; have z5 := hSw.cell y1; have z6 := hSw.cell y2; go_simp; try with_reducible rfl)); simp only [Act.put, List.setIfInBounds_toArray, List.set_cons_zero, List.set_cons_succ])
            | (refine wpAnyHIn_take 5 (v := ?_) rfl (by kernel_rfl) (by kernel_rfl) (by kernel_rfl) (by decide +kernel) (fun _ _ _ h => h) (fun _ _ _ => trivial) (by rfl) (fun w' hSw => ?_) hS ?_; rotate_left 1; (focus (have z0 := hSw.cell cb'; have z1 := hSw.cell x0; have z2 := hSw.cell x1; have z3 := hSw.cell x2; have z4 := hSw.cell y0; have z5 := hSw.cell y1; have z6 := hSw.cell y2; go_simp; try with_reducible rfl)); simp only [Act.put, List.setIfInBounds_toArray, List.set_cons_zero, List.set_cons_succ])
            | (refine wpAnyHIn_take 7 (v := ?_) rfl (by kernel_rfl) (by kernel_rfl) (by kernel_rfl) (by decide +kernel) (fun _ _ _ h => h) (fun _ _ _ => trivial) (by rfl) (fun w' hSw => ?_) hS ?_; rotate_left 1; (focus (have z0 := hSw.cell cb'; have z1 := hSw.cell x0; have z2 := hSw.cell x1; have z3 := hSw.cell x2; have z4 := hSw.cell y0; have z5 := hSw.cell y1; have z6 := hSw.cell y2; go_simp; try with_reducible rfl)); simp only [Act.put, List.setIfInBounds_toArray, List.set_cons_zero, List.set_cons_succ])
            | (refine wpAnyHIn_take 8 (v := ?_) rfl (by kernel_rfl) (by kernel_rfl) (by kernel_rfl) (by decide +kernel) (fun _ _ _ h => h) (fun _ _ _ => trivial) (by rfl) (fun w' hSw => ?_) hS ?_; rotate_left 1; (focus (have z0 := hSw.cell cb'; have z1 := hSw.cell x0; have z2 := hSw.cell x1; have z3 := hSw.cell x2; have z4 := hSw.cell y0; have z5 := hSw.cell y1; have z6 := hSw.cell y2; go_simp; try with_reducible rfl)); simp only [Act.put, List.setIfInBounds_toArray, List.set_cons_zero, List.set_cons_succ]))
          refine wpAnyHIn_ready [6] (by kernel_rfl) (by simp) ?_
          refine AllHIn.cons rfl (by rfl) (fun K hK => ?_) AllHIn.nil
          go_simp
          refine (CallsIn.inRound l (callsIn_wide.2 (C1.out _ (hG.drew)))).mono ?_
          rintro e w4 ⟨rfl, g4⟩
          have hS : Gr wc w4 := hS.trans g4
          refine hK.out _ _ hS ?_
          clear hK K g4
          refine wpAnyHIn_ready [9] (by kernel_rfl) (by simp) ?_
          refine AllHIn.cons rfl (by rfl) (fun K hK => ?_) AllHIn.nil
          go_simp
          refine (CallsIn.inRound l (callsIn_wide.2 (C2.out _ hS))).mono ?_
          rintro e w5 ⟨rfl, g5⟩
          have hS : Gr wc w5 := hS.trans g5
          refine hK.out _ _ hS ?_
          clear hK K g5
          refine wpAnyHIn_ready [10] (by kernel_rfl) (by simp) ?_
          refine AllHIn.cons rfl (by rfl) (fun K hK => ?_) AllHIn.nil
          go_simp
          refine (CallsIn.inRound l (callsIn_wide.2 (CC.out _))).mono ?_
          rintro e w6 ⟨rfl, g6⟩
          rw [CV]
          have hS : Gr wc w6 := hS.trans g6
          refine hK.out _ _ hS ?_
          clear hK K g6
          iterate 2 (first
            | (refine wpAnyHIn_take 11 (v := ?_) rfl (by kernel_rfl) (by kernel_rfl) (by kernel_rfl) (by decide +kernel) (fun _ _ _ h => h) (fun _ _ _ => trivial) (by rfl) (fun w' hSw => ?_) hS ?_; rotate_left 1; (focus (skip; go_simp; try with_reducible rfl)); simp only [Act.put, List.setIfInBounds_toArray, List.set_cons_zero, List.set_cons_succ])
            | (refine wpAnyHIn_take 12 (v := ?_) rfl (by kernel_rfl) (by kernel_rfl) (by kernel_rfl) (by decide +kernel) (fun _ _ _ h => h) (fun _ _ _ => trivial) (by rfl) (fun w' hSw => ?_) hS ?_; rotate_left 1; (focus (skip; go_simp; try with_reducible rfl)); simp only [Act.put, List.setIfInBounds_toArray, List.set_cons_zero, List.set_cons_succ]))
          refine wpAnyHIn_done (by kernel_rfl) ?_ _
          have bb := HB3.out.gr hS
          obtain ⟨v0, v1, v2, v3, v4, v5⟩ := bb
          obtain ⟨u0, u1, u2, _, _, _⟩ := HB6.out.gr hS
          gi_wp2
          subst hk1 hk2 hk3
          exact best_take WX.out (W1.out.trans hS) HI.out ST.out ⟨v0, v1, v2, v3, v4, v5⟩ (Gr.refl _)
        · have ST := Lib.hid st
          clear st
          rcases cv with CV | CV
          all_goals (
            gi_wp2
            refine wpIn_region_held (fun w' => Gr wc w') 13 (by kernel_rfl) rfl rfl ?_
            have hS : Gr wc wc.drew := hG.drew
            iterate 8 (first
              | (refine wpAnyHIn_take 0 (v := ?_) rfl (by kernel_rfl) (by kernel_rfl) (by kernel_rfl) (by decide +kernel) (fun _ _ _ h => h) (fun _ _ _ => trivial) (by rfl) (fun w' hSw => ?_) hS ?_; rotate_left 1; (focus (have z0 := hSw.cell cb'; have z1 := hSw.cell x0; have z2 := hSw.cell x1; have z3 := hSw.cell x2; have z4 := hSw.cell y0; have z5 := hSw.cell y1; have z6 := hSw.cell y2; go_simp; try with_reducible rfl)); simp only [Act.put, List.setIfInBounds_toArray, List.set_cons_zero, List.set_cons_succ])
              | (refine wpAnyHIn_take 1 (v := ?_) rfl (by kernel_rfl) (by kernel_rfl) (by kernel_rfl) (by decide +kernel) (fun _ _ _ h => h) (fun _ _ _ => trivial) (by rfl) (fun w' hSw => ?_) hS ?_; rotate_left 1; (focus (have z0 := hSw.cell cb'; have z1 := hSw.cell x0; have z2 := hSw.cell x1; have z3 := hSw.cell x2; have z4 := hSw.cell y0; have z5 := hSw.cell y1; have z6 := hSw.cell y2; go_simp; try with_reducible rfl)); simp only [Act.put, List.setIfInBounds_toArray, List.set_cons_zero, List.set_cons_succ])
              | (refine wpAnyHIn_take 2 (v := ?_) rfl (by kernel_rfl) (by kernel_rfl) (by kernel_rfl) (by decide +kernel) (fun _ _ _ h => h) (fun _ _ _ => trivial) (by rfl) (fun w' hSw => ?_) hS ?_; rotate_left 1; (focus (have z0 := hSw.cell cb'; have z1 := hSw.cell x0; have z2 := hSw.cell x1; have z3 := hSw.cell x2; have z4 := hSw.cell y0; have z5 := hSw.cell y1; have z6 := hSw.cell y2; go_simp; try with_reducible rfl)); simp only [Act.put, List.setIfInBounds_toArray, List.set_cons_zero, List.set_cons_succ])
              | (refine wpAnyHIn_take 3 (v := ?_) rfl (by kernel_rfl) (by kernel_rfl) (by kernel_rfl) (by decide +kernel) (fun _ _ _ h => h) (fun _ _ _ => trivial) (by rfl) (fun w' hSw => ?_) hS ?_; rotate_left 1; (focus (have z0 := hSw.cell cb'; have z1 := hSw.cell x0; have z2 := hSw.cell x1; have z3 := hSw.cell x2; have z4 := hSw.cell y0; have z5 := hSw.cell y1; have z6 := hSw.cell y2; go_simp; try with_reducible rfl)); simp only [Act.put, List.setIfInBounds_toArray, List.set_cons_zero, List.set_cons_succ])
              | (refine wpAnyHIn_take 4 (v := ?_) rfl (by kernel_rfl) (by kernel_rfl) (by kernel_rfl) (by decide +kernel) (fun _ _ _ h => h) (fun _ _ _ => trivial) (by rfl) (fun w' hSw => ?_) hS ?_; rotate_left 1; (focus (have z0 := hSw.cell cb'; have z1 := hSw.cell x0; have z2 := hSw.cell x1; have z3 := hSw.cell x2; have z4 := hSw.cell y0; have z5 := hSw.cell y1; have z6 := hSw.cell y2; go_simp; try with_reducible rfl)); simp only [Act.put, List.setIfInBounds_toArray, List.set_cons_zero, List.set_cons_succ])
              | (refine wpAnyHIn_take 5 (v := ?_) rfl (by kernel_rfl) (by kernel_rfl) (by kernel_rfl) (by decide +kernel) (fun _ _ _ h => h) (fun _ _ _ => trivial) (by rfl) (fun w' hSw => ?_) hS ?_; rotate_left 1; (focus (have z0 := hSw.cell cb'; have z1 := hSw.cell x0; have z2 := hSw.cell x1; have z3 := hSw.cell x2; have z4 := hSw.cell y0; have z5 := hSw.cell y1; have z6 := hSw.cell y2; go_simp; try with_reducible rfl)); simp only [Act.put, List.setIfInBounds_toArray, List.set_cons_zero, List.set_cons_succ])
              | (refine wpAnyHIn_take 7 (v := ?_) rfl (by kernel_rfl) (by kernel_rfl) (by kernel_rfl) (by decide +kernel) (fun _ _ _ h => h) (fun _ _ _ => trivial) (by rfl) (fun w' hSw => ?_) hS ?_; rotate_left 1; (focus (have z0 := hSw.cell cb'; have z1 := hSw.cell x0; have z2 := hSw.cell x1; have z3 := hSw.cell x2; have z4 := hSw.cell y0; have z5 := hSw.cell y1; have z6 := hSw.cell y2; go_simp; try with_reducible rfl)); simp only [Act.put, List.setIfInBounds_toArray, List.set_cons_zero, List.set_cons_succ])
              | (refine wpAnyHIn_take 8 (v := ?_) rfl (by kernel_rfl) (by kernel_rfl) (by kernel_rfl) (by decide +kernel) (fun _ _ _ h => h) (fun _ _ _ => trivial) (by rfl) (fun w' hSw => ?_) hS ?_; rotate_left 1; (focus (have z0 := hSw.cell cb'; have z1 := hSw.cell x0; have z2 := hSw.cell x1; have z3 := hSw.cell x2; have z4 := hSw.cell y0; have z5 := hSw.cell y1; have z6 := hSw.cell y2; go_simp; try with_reducible rfl)); simp only [Act.put, List.setIfInBounds_toArray, List.set_cons_zero, List.set_cons_succ]))
            refine wpAnyHIn_ready [6] (by kernel_rfl) (by simp) ?_
            refine AllHIn.cons rfl (by rfl) (fun K hK => ?_) AllHIn.nil
            go_simp
            refine (CallsIn.inRound l (callsIn_wide.2 (C1.out _ (hG.drew)))).mono ?_
            rintro e w4 ⟨rfl, g4⟩
            have hS : Gr wc w4 := hS.trans g4
            refine hK.out _ _ hS ?_
            clear hK K g4
            refine wpAnyHIn_ready [9] (by kernel_rfl) (by simp) ?_
            refine AllHIn.cons rfl (by rfl) (fun K hK => ?_) AllHIn.nil
            go_simp
            refine (CallsIn.inRound l (callsIn_wide.2 (C2.out _ hS))).mono ?_
            rintro e w5 ⟨rfl, g5⟩
            have hS : Gr wc w5 := hS.trans g5
            refine hK.out _ _ hS ?_
            clear hK K g5
            refine wpAnyHIn_ready [10] (by kernel_rfl) (by simp) ?_
            refine AllHIn.cons rfl (by rfl) (fun K hK => ?_) AllHIn.nil
            go_simp
            refine (CallsIn.inRound l (callsIn_wide.2 (CC.out _))).mono ?_
            rintro e w6 ⟨rfl, g6⟩
            rw [CV]
            have hS : Gr wc w6 := hS.trans g6
            refine hK.out _ _ hS ?_
            clear hK K g6
            iterate 2 (first
              | (refine wpAnyHIn_take 11 (v := ?_) rfl (by kernel_rfl) (by kernel_rfl) (by kernel_rfl) (by decide +kernel) (fun _ _ _ h => h) (fun _ _ _ => trivial) (by rfl) (fun w' hSw => ?_) hS ?_; rotate_left 1; (focus (skip; go_simp; try with_reducible rfl)); simp only [Act.put, List.setIfInBounds_toArray, List.set_cons_zero, List.set_cons_succ])
              | (refine wpAnyHIn_take 12 (v := ?_) rfl (by kernel_rfl) (by kernel_rfl) (by kernel_rfl) (by decide +kernel) (fun _ _ _ h => h) (fun _ _ _ => trivial) (by rfl) (fun w' hSw => ?_) hS ?_; rotate_left 1; (focus (skip; go_simp; try with_reducible rfl)); simp only [Act.put, List.setIfInBounds_toArray, List.set_cons_zero, List.set_cons_succ]))
            refine wpAnyHIn_done (by kernel_rfl) ?_ _
            gi_wp2
            exact best_keep WX.out HI.out ST.out (by have h := HS.out; rw [hs] at h; exact h) (W1.out.trans hS))
  case done =>
    rintro D xs W hD hxs ⟨hs, hX, _⟩ hK
    rw [hxs] at hs
    have GW := Lib.hid (hX.gr G0.out (fun k hk => by omega))
    have NB : ∀ k, k = w.heap.size + 1 → ¬ k = w.heap.size + 1 + 1 := fun k hk => by omega
    have B2' : Box3 W (w.heap.size + 1) 0 0 0 := ⟨hX.cell B2.out.1 (NB _ rfl), hX.cell B2.out.2.1 (NB _ rfl), hX.cell B2.out.2.2.1 (NB _ rfl), (hX.frozen B2.out.1 (NB _ rfl)).trans B2.out.2.2.2.1, (hX.frozen B2.out.2.1 (NB _ rfl)).trans B2.out.2.2.2.2.1, (hX.frozen B2.out.2.2.1 (NB _ rfl)).trans B2.out.2.2.2.2.2⟩
    clear NB hX hxs
    obtain ⟨s, hs0⟩ : ∃ s, bst n X Y (prs X n) = s := ⟨_, rfl⟩
    rw [hs0] at hs
    have HS0 := Lib.hid hs0
    have HE := fun (W1 W' : World) => best_end (W1 := W1) (W' := W') (A := oA X Y s) (B := oB X Y s) (C := oD X Y s) (show w.heap.size ≤ w.heap.size + 1 by omega) (show w.heap.size ≤ D by omega) (show D ≠ w.heap.size + 1 by omega) GW.out B2' hK
    have HE := Lib.hid HE
    obtain ⟨m0, m1, m2, _, _, _⟩ := hs
    obtain ⟨p0, p1, p2, p3, p4, p5⟩ := B2'
    clear hs0
    have l3 : w.heap.size + 1 < W.heap.size := World.block_lt_of_cell? W _ p0
    gi_wp2
    obtain ⟨k1, k2, k3⟩ := HE.out _ _ rfl rfl
    refine ⟨by simp, .inl ⟨_, _, rfl, run_takeDeferred k1, ?_⟩⟩
    obtain ⟨r0, r1, r2, _⟩ := k2
    refine ⟨.agg #[.int .i64 (oA X Y s), .int .i64 (oB X Y s), .int .i64 (oD X Y s)], by simp [results, Try.f60, go_sem, r0, r1, r2], by rw [HS0.out], k3⟩

end Go.Proofs.Ytbhndfnfohoidaa
