/- Contracts of chapter 7: the best cut of those that are let. -/
import Derived.Test.YtohcnicadbpbbaaDoorDC
namespace Go.Proofs.YtohcnicadbpbbaaDoor
open Go.RowKit Go.Firn Go.Shelf Go.Sort
attribute [local go_sem] Oper.semAt_some
attribute [local simp] wide_fn

theorem cuts_any (s t u v : Value) (w : World) :
    Calls Tryd.prog 88 #[.agg #[s, t, u, v]] w fun e w' => e = .returned (.func (.func 98) #[] #[.pointer (some ⟨w.heap.size, 0, none⟩)]) ∧ w' = w.alloc (.cells #[s, t, u, v] 58) := by
  have hmf : ∀ (fn : Fn) (first cap : Array Value) (w : World), (Instr.makeFunc fn first cap).run Tryd.prog w = .ok (.func fn first cap) w := fun _ _ _ _ => rfl
  go_enter Tryd.func88, Tryd.ntmps88
  go_wp2_with fail
  go_ret
  exact ⟨rfl, rfl⟩

/-- A cut, told as a list, in a block of the call's own. -/
def RetC (L : List Nat) (w : World) (e : Ending) (w' : World) : Prop := ∃ a c, e = .returned (.slice a L.length c) ∧ L.length ≤ c ∧ c ≤ maxLen ∧ RdI w' a L.length (nf L) ∧ Gr w w'

/-- What was found so far, in memory. -/
structure Sb (W : World) (b7 b8 b9 : Nat) (v : Value) (fb : Bool) (mb : Int) : Prop where
  c7 : W.cell? ⟨b7, 0, none⟩ = some v
  f7 : W.frozen? ⟨b7, 0, none⟩ = false
  c8 : W.cell? ⟨b8, 0, none⟩ = some (.bool fb)
  f8 : W.frozen? ⟨b8, 0, none⟩ = false
  c9 : W.cell? ⟨b9, 0, none⟩ = some (.int .i64 mb)
  f9 : W.frozen? ⟨b9, 0, none⟩ = false
theorem Sb.gr {W W' : World} {b7 b8 b9 : Nat} {v : Value} {fb : Bool} {mb : Int} (h : Sb W b7 b8 b9 v fb mb) (g : Gr W W') : Sb W' b7 b8 b9 v fb mb :=
  ⟨g.cell h.c7, (Below.frozen g (p := ⟨b7, 0, none⟩) (World.block_lt_of_cell? _ _ h.c7)).trans h.f7, g.cell h.c8, (Below.frozen g (p := ⟨b8, 0, none⟩) (World.block_lt_of_cell? _ _ h.c8)).trans h.f8, g.cell h.c9, (Below.frozen g (p := ⟨b9, 0, none⟩) (World.block_lt_of_cell? _ _ h.c9)).trans h.f9⟩
theorem Sb.own {W W' : World} {b7 b8 b9 : Nat} {v : Value} {fb : Bool} {mb : Int} {row : Option Nat} (h : Sb W b7 b8 b9 v fb mb) (hg : W.grownBy W' row) (hr : ∀ r, row = some r → ∃ o : Obj, W.heap[r]? = some o ∧ o.isCells = false) : Sb W' b7 b8 b9 v fb mb :=
  ⟨cell_kept h.c7 hg hr, (frozen_kept h.c7 hg hr).trans h.f7, cell_kept h.c8 hg hr, (frozen_kept h.c8 hg hr).trans h.f8, cell_kept h.c9 hg hr, (frozen_kept h.c9 hg hr).trans h.f9⟩
theorem LiB.own {W W' : World} {B : Nat} {l : List Nat} {x : Value} {row : Option Nat} (h : LiB W B l x) (hg : W.grownBy W' row) (hr : ∀ r, row = some r → ∃ o : Obj, W.heap[r]? = some o ∧ o.isCells = false) : LiB W' B l x := by
  obtain ⟨a, c, h1, h2, h3, h4⟩ := h
  refine ⟨a, c, h1, h2, h3, h4.imp id ?_⟩
  rintro ⟨b, o, k1, k2, k3⟩
  exact ⟨b, o, k1, k2, fun j hj => cell_kept (k3 j hj) hg hr⟩
/-- What the cells say of what was found. -/
def Fnd (n : Nat) (vf : Nat → Int) (B : Nat) (o : Option Nat) (W : World) (v : Value) (fb : Bool) (mb : Int) : Prop :=
  (o = none ∧ v = .slice none 0 0 ∧ fb = false) ∨ ∃ b, o = some b ∧ fb = true ∧ mb = vf b ∧ LiB W B (cS n b) v
/-- The caller's invariant. -/
def Ib (n : Nat) (P : Nat → Bool) (vf : Nat → Int) (b7 b8 b9 : Nat) (W0 : World) (pre : List (Nat × Value)) (W : World) : Prop :=
  (∃ v fb mb, Sb W b7 b8 b9 v fb mb ∧ Fnd n vf W0.heap.size (foldO P vf (pre.map (·.1))) W v fb mb) ∧ Wx (fun k => k = b7 ∨ k = b8 ∨ k = b9) W0 W
theorem Ib.own (n : Nat) (P : Nat → Bool) (vf : Nat → Int) (b7 b8 b9 : Nat) (W0 : World) : OwnFrom W0.heap.size (Ib n P vf b7 b8 b9 W0) := fun _ _ _ _ hs hg hr => by
  obtain ⟨⟨v, fb, mb, h1, h2⟩, h3⟩ := hs
  have hr2 := fun r e => (hr r e).2
  refine ⟨⟨v, fb, mb, h1.own hg hr2, h2.imp id ?_⟩, h3.own hg (fun r e => (hr r e).1)⟩
  rintro ⟨b, k1, k2, k3, k4⟩
  exact ⟨b, k1, k2, k3, k4.own hg hr2⟩
theorem round_keep {n b7 b8 b9 : Nat} {P : Nat → Bool} {vf : Nat → Int} {W0 W W' : World} {pre : List (Nat × Value)} {x : Nat × Value} {v : Value} {fb : Bool} {mb : Int} (h1 : Sb W b7 b8 b9 v fb mb) (h2 : Fnd n vf W0.heap.size (foldO P vf (pre.map (·.1))) W v fb mb)
    (hX : Wx (fun k => k = b7 ∨ k = b8 ∨ k = b9) W0 W) (hs : foldO P vf ((pre ++ [x]).map (·.1)) = foldO P vf (pre.map (·.1))) (g : Gr W W') :
    KeepsOthers W W' ∧ Kc (fun k => k ≠ b7 ∧ k ≠ b8 ∧ k ≠ b9) W W' ∧ Ib n P vf b7 b8 b9 W0 (pre ++ [x]) W' := by
  refine ⟨Gr.others g, fun p v _ e => g.cell e, ⟨⟨v, fb, mb, h1.gr g, ?_⟩, hX.trans (Wx.of_gr g)⟩⟩
  rw [hs]
  exact h2.imp id fun ⟨b, k1, k2, k3, k4⟩ => ⟨b, k1, k2, k3, k4.gr g⟩
theorem round_take {n b7 b8 b9 : Nat} {P : Nat → Bool} {vf : Nat → Int} {W0 W W2 W' : World} {pre : List (Nat × Value)} {x : Nat × Value} {v : Value} {fb : Bool} {mb : Int} (n1 : b7 ≠ b8) (n2 : b7 ≠ b9) (n3 : b8 ≠ b9) (l1 : b7 < W0.heap.size) (l2 : b8 < W0.heap.size) (l3 : b9 < W0.heap.size) (h1 : Sb W b7 b8 b9 v fb mb) (hx : LiB W W0.heap.size (cS n x.1) x.2)
    (hX : Wx (fun k => k = b7 ∨ k = b8 ∨ k = b9) W0 W) (hs : foldO P vf ((pre ++ [x]).map (·.1)) = some x.1) (g : Gr W W2) (hW' : Gr (((W2.setCell ⟨b7, 0, none⟩ x.2).setCell ⟨b8, 0, none⟩ (.bool true)).setCell ⟨b9, 0, none⟩ (.int .i64 (vf x.1))) W') :
    KeepsOthers W W' ∧ Kc (fun k => k ≠ b7 ∧ k ≠ b8 ∧ k ≠ b9) W W' ∧ Ib n P vf b7 b8 b9 W0 (pre ++ [x]) W' := by
  have hw : Wx (fun k => k = b7 ∨ k = b8 ∨ k = b9) W W' :=
    ((((Wx.of_gr g).set (.inl rfl) 0 _).set (.inr (.inl rfl)) 0 _).set (.inr (.inr rfl)) 0 _).trans (Wx.of_gr hW')
  have hk : KeepsOthers W W' :=
    ((((Gr.others g).trans (KeepsOthers.setCell _ _ _)).trans (KeepsOthers.setCell _ _ _)).trans (KeepsOthers.setCell _ _ _)).trans (Gr.others hW')
  have h2 := h1.gr g
  have kc : Kc (fun k => k ≠ b7 ∧ k ≠ b8 ∧ k ≠ b9) W W' := fun p v hp e => hw.cell e (fun h => h.elim hp.1 fun h => h.elim hp.2.1 hp.2.2)
  have z7 := cell_far (k := 0) (cell_far (k := 0) (cell_near h2.c7 x.2) (Ne.symm n1) (.bool true)) (Ne.symm n2) (.int .i64 (vf x.1))
  have z8 := cell_far (k := 0) (cell_near (cell_far (k := 0) h2.c8 n1 x.2) (.bool true)) (Ne.symm n3) (.int .i64 (vf x.1))
  have z9 := cell_near (cell_far (k := 0) (cell_far (k := 0) h2.c9 n2 x.2) n3 (.bool true)) (.int .i64 (vf x.1))
  refine ⟨hk, kc, ⟨⟨x.2, true, vf x.1, ⟨hW'.cell z7, ?_, hW'.cell z8, ?_, hW'.cell z9, ?_⟩, .inr ⟨x.1, hs, rfl, rfl, hx.kc kc fun k hk => by omega⟩⟩, hX.trans hw⟩⟩
  · rw [Below.frozen hW' (p := ⟨b7, 0, none⟩) (World.block_lt_of_cell? _ _ z7)]
    simpa using h2.f7
  · rw [Below.frozen hW' (p := ⟨b8, 0, none⟩) (World.block_lt_of_cell? _ _ z8)]
    simpa using h2.f8
  · rw [Below.frozen hW' (p := ⟨b9, 0, none⟩) (World.block_lt_of_cell? _ _ z9)]
    simpa using h2.f9

set_option maxHeartbeats 4000000 in
set_option maxRecDepth 100000 in
theorem best_any (a a2 : Option Addr) (n c d : Nat) (x y : Int) (hn : n ≤ 10) (LF WF : FuncId) (lb wb : Array Value) (P : Nat → Bool) (vf : Nat → Int) (w : World) (hT : Tab w)
    (hcl : ∀ (args : Array Value) (wz : World), (callFunc LF args).run Tryd.prog wz = .ok (.enter LF args) wz) (hcw : ∀ (args : Array Value) (wz : World), (callFunc WF args).run Tryd.prog wz = .ok (.enter WF args) wz)
    (hL : ∀ w', Gr w w' → ∀ s, s < 2 ^ n → ∀ av B, LiB w' B (cS n s) av → Calls Tryd.prog LF (#[av] ++ lb) w' (RetB (P s) w'))
    (hW : ∀ w', Gr w w' → ∀ s, s < 2 ^ n → ∀ av B, LiB w' B (cS n s) av → Calls Tryd.prog WF (#[av] ++ wb) w' fun e w'' => e = .returned (.int .i64 (vf s)) ∧ Gr w' w'')
    (h0 : P 0 = true) :
    Calls Tryd.prog 65 #[.agg #[.slice a n c, .slice a2 n d, .int .i64 x, .int .i64 y], .func (.func LF) #[] lb, .func (.func WF) #[] wb] w fun e w' => ∃ b, IsBest (2 ^ n) P vf (cS n) b ∧ RetC (cS n b) w e w' := by
  have HT := Lib.hid hT
  have HLc := Lib.hid hL
  have HWc := Lib.hid hW
  have P0 := Lib.hid h0
  have HC1 := Lib.hid hcl
  have HC2 := Lib.hid hcw
  clear hT hL hW h0 hcl hcw
  refine (callsIn_wide (n := 3)).1 ?_
  refine callsIn_of_wp_marks Tryd.func65 rfl trivial ?_ rfl
  simp only [Tryd.ntmps65, List.size_toArray, List.length_cons, List.length_nil, Nat.reduceAdd, Nat.reduceSub, Array.replicate_succ, Array.replicate_zero, List.push_toArray, List.append_toArray, List.nil_append, List.cons_append]
  gi_wp2_with (gi_at_call 88; refine (callsIn_wide.2 (cuts_any _ _ _ _ _)).mono ?_; rintro e w' ⟨rfl, rfl⟩)
  generalize hW0 : (((((((w.alloc _).alloc _).alloc _).alloc _).alloc _).alloc _).alloc _) = W0
  have S0 : W0.heap.size = w.heap.size + 7 := by rw [← hW0]; simp
  have G0 := Lib.hid (show Gr w W0 by rw [← hW0]; exact (((((((Gr.refl w).alloc _).alloc _).alloc _).alloc _).alloc _).alloc _).alloc _)
  have B4 := Lib.hid (show W0.cell? ⟨w.heap.size + 1, 0, none⟩ = some (.func (.func LF) #[] lb) by rw [← hW0]; exact ((((((Gr.refl _).alloc _).alloc _).alloc _).alloc _).alloc _).fresh' (by simp) rfl |>.1)
  have B5 := Lib.hid (show W0.cell? ⟨w.heap.size + 1 + 1, 0, none⟩ = some (.func (.func WF) #[] wb) by rw [← hW0]; exact (((((Gr.refl _).alloc _).alloc _).alloc _).alloc _).fresh' (by simp) rfl |>.1)
  have B7 := Lib.hid (show W0.cell? ⟨w.heap.size + 1 + 1 + 1, 0, none⟩ = some (.slice none 0 0) ∧ W0.frozen? ⟨w.heap.size + 1 + 1 + 1, 0, none⟩ = false by rw [← hW0]; exact ((((Gr.refl _).alloc _).alloc _).alloc _).fresh' (by simp) rfl)
  have B8 := Lib.hid (show W0.cell? ⟨w.heap.size + 1 + 1 + 1 + 1, 0, none⟩ = some (.bool false) ∧ W0.frozen? ⟨w.heap.size + 1 + 1 + 1 + 1, 0, none⟩ = false by rw [← hW0]; exact (((Gr.refl _).alloc _).alloc _).fresh' (by simp) rfl)
  have B9 := Lib.hid (show W0.cell? ⟨w.heap.size + 1 + 1 + 1 + 1 + 1, 0, none⟩ = some (.int .i64 0) ∧ W0.frozen? ⟨w.heap.size + 1 + 1 + 1 + 1 + 1, 0, none⟩ = false by rw [← hW0]; exact ((Gr.refl _).alloc _).fresh' (by simp) rfl)
  have BX := Lib.hid (show Box4 W0 (w.heap.size + 1 + 1 + 1 + 1 + 1 + 1) (.slice a n c) (.slice a2 n d) (.int .i64 x) (.int .i64 y) by rw [← hW0]; exact Box4.new (by simp))
  clear hW0
  refine rangeFunc_memP rfl (by omega) (gf := 98) (lb := #[.pointer (some ⟨w.heap.size + 1 + 1 + 1 + 1 + 1 + 1, 0, none⟩)]) rfl trivial (enters_of Tryd.func98 (by kernel_rfl) rfl)
    (cuts1_seqP (K := fun k => k ≠ w.heap.size + 1 + 1 + 1 ∧ k ≠ w.heap.size + 1 + 1 + 1 + 1 ∧ k ≠ w.heap.size + 1 + 1 + 1 + 1 + 1) _ (by omega) (w.heap.size + 1 + 1 + 1 + 1 + 1 + 1) n c d a a2 x y W0 hn BX.out (HT.out.gr G0.out) (fun k hk => by omega))
    Kc.trans (fun W l o o' _ h hc _ => Kc.putObj W l o o' h hc) (fun z W l o o' hx h hc => ⟨hx.1, hx.2.kc (Kc.putObj (K := fun _ => True) W l o o' h hc) fun _ _ => trivial⟩) (Below.refl _ _) (fun _ => rfl)
    (Ib n P vf (w.heap.size + 1 + 1 + 1) (w.heap.size + 1 + 1 + 1 + 1) (w.heap.size + 1 + 1 + 1 + 1 + 1) W0) (Ib.own n P vf _ _ _ W0)
    ⟨⟨_, _, _, ⟨B7.out.1, B7.out.2, B8.out.1, B8.out.2, B9.out.1, B9.out.2⟩, .inl ⟨rfl, rfl, rfl⟩⟩, Wx.refl _ _⟩
    (fun z => { tmps := #[.agg #[.slice a n c, .slice a2 n d, .int .i64 x, .int .i64 y], .func (.func LF) #[] lb, .func (.func WF) #[] wb, .pointer (some ⟨w.heap.size, 0, none⟩), .pointer (some ⟨w.heap.size + 1, 0, none⟩), .pointer (some ⟨w.heap.size + 1 + 1, 0, none⟩), .slice none 0 0, .pointer (some ⟨w.heap.size + 1 + 1 + 1, 0, none⟩), .pointer (some ⟨w.heap.size + 1 + 1 + 1 + 1, 0, none⟩), .pointer (some ⟨w.heap.size + 1 + 1 + 1 + 1 + 1, 0, none⟩), z.2, undef, .agg #[.slice a n c, .slice a2 n d, .int .i64 x, .int .i64 y], .func (.func 98) #[] #[.pointer (some ⟨w.heap.size + 1 + 1 + 1 + 1 + 1 + 1, 0, none⟩)], z.2, undef, undef, undef, undef, undef, undef, undef, undef, undef, undef, undef, undef, undef, undef, undef, undef, undef], defers := [] }) ?assign ?body ?done
  case assign =>
    intro l z W K hK
    unfold encC
    gi_wp2
    exact hK
  case body =>
    rintro l pre ⟨zs, zv⟩ W _ ⟨⟨v, fb, mb, hs, hf⟩, hX⟩ hz
    obtain ⟨az, cz, ez, _, _, _⟩ := hz.2.rd
    dsimp only at ez
    subst ez
    dsimp only
    have GW := Lib.hid (hX.gr G0.out (fun k hk => by omega))
    have b4 := hX.cell B4.out (by simp)
    have b5 := hX.cell B5.out (by simp)
    have CL := Lib.hid (HLc.out W GW.out zs hz.1 _ _ hz.2)
    have CW := Lib.hid (fun w' (g : Gr W w') => HWc.out w' (GW.out.trans g) zs hz.1 _ _ (hz.2.gr g))
    have WX := Lib.hid hX
    have HS := Lib.hid hs
    have HF := Lib.hid hf
    have HZ := Lib.hid hz.2
    have SN := Lib.hid (show foldO P vf ((pre ++ [(zs, Value.slice az (cS n zs).length cz)]).map (·.1)) = stepO P vf (foldO P vf (pre.map (·.1))) zs by rw [List.map_append]; exact foldO_snoc P vf _ _)
    have hcl := HC1.out
    have hcw := HC2.out
    clear hX hs hf hz
    cases hP : P zs with
    | false =>
      rw [hP] at CL
      have SK := Lib.hid (show foldO P vf ((pre ++ [(zs, Value.slice az (cS n zs).length cz)]).map (·.1)) = foldO P vf (pre.map (·.1)) by
        rw [SN.out]
        unfold stepO
        cases foldO P vf (pre.map (·.1)) <;> simp [hP])
      clear hP
      gi_wp2
      refine (CallsIn.inRound l (callsIn_wide.2 CL.out)).mono ?_
      rintro e w2 ⟨rfl, g2⟩
      have G2 := Lib.hid g2
      clear g2
      gi_wp2
      exact round_keep HS.out HF.out WX.out SK.out G2.out
    | true =>
      rw [hP] at CL
      rcases HF.out with ⟨eo, rfl, rfl⟩ | ⟨b, eo, rfl, rfl, hb⟩
      · have ST := Lib.hid (show foldO P vf ((pre ++ [(zs, Value.slice az (cS n zs).length cz)]).map (·.1)) = some zs by rw [SN.out, eo]; unfold stepO; simp [hP])
        clear hP eo
        gi_wp2
        refine (CallsIn.inRound l (callsIn_wide.2 CL.out)).mono ?_
        rintro e w2 ⟨rfl, g2⟩
        have G2 := Lib.hid g2
        have b5' := g2.cell b5
        clear g2
        gi_wp2
        refine (CallsIn.inRound l (callsIn_wide.2 (CW.out _ G2.out))).mono ?_
        rintro e w3 ⟨rfl, g3⟩
        have G3 := Lib.hid (G2.out.trans g3)
        clear g3
        obtain ⟨c7, f7, c8, f8, c9, f9⟩ := HS.out.gr G3.out
        gi_wp2
        exact round_take (x := (zs, _)) (by omega) (by omega) (by omega) (by omega) (by omega) (by omega) HS.out HZ.out WX.out ST.out G3.out (by first | exact Gr.refl _ | exact (Gr.refl _).drew)
      · by_cases hlt : vf b < vf zs
        · have ST := Lib.hid (show foldO P vf ((pre ++ [(zs, Value.slice az (cS n zs).length cz)]).map (·.1)) = some zs by rw [SN.out, eo]; unfold stepO; simp [hP, hlt])
          have hgt : vf zs > vf b := hlt
          clear hP eo hb
          gi_wp2
          refine (CallsIn.inRound l (callsIn_wide.2 CL.out)).mono ?_
          rintro e w2 ⟨rfl, g2⟩
          have G2 := Lib.hid g2
          have b5' := g2.cell b5
          clear g2
          gi_wp2
          refine (CallsIn.inRound l (callsIn_wide.2 (CW.out _ G2.out))).mono ?_
          rintro e w3 ⟨rfl, g3⟩
          have G3 := Lib.hid (G2.out.trans g3)
          clear g3
          obtain ⟨c7, f7, c8, f8, c9, f9⟩ := HS.out.gr G3.out
          gi_wp2
          exact round_take (x := (zs, _)) (by omega) (by omega) (by omega) (by omega) (by omega) (by omega) HS.out HZ.out WX.out ST.out G3.out (by first | exact Gr.refl _ | exact (Gr.refl _).drew)
        · have SK := Lib.hid (show foldO P vf ((pre ++ [(zs, Value.slice az (cS n zs).length cz)]).map (·.1)) = foldO P vf (pre.map (·.1)) by rw [SN.out, eo]; unfold stepO; simp [hlt])
          have hgt : ¬ vf zs > vf b := hlt
          clear hP eo hb
          gi_wp2
          refine (CallsIn.inRound l (callsIn_wide.2 CL.out)).mono ?_
          rintro e w2 ⟨rfl, g2⟩
          have G2 := Lib.hid g2
          have b5' := g2.cell b5
          clear g2
          gi_wp2
          refine (CallsIn.inRound l (callsIn_wide.2 (CW.out _ G2.out))).mono ?_
          rintro e w3 ⟨rfl, g3⟩
          have G3 := Lib.hid (G2.out.trans g3)
          clear g3
          obtain ⟨c7, f7, c8, f8, c9, f9⟩ := HS.out.gr G3.out
          gi_wp2
          exact round_keep HS.out HF.out WX.out SK.out (by first | exact G3.out | exact G3.out.drew)
  case done =>
    rintro D xs W hD ⟨C, oc, ex⟩ ⟨⟨v, fb, mb, hs, hf⟩, hX⟩ hK
    have hpos := Nat.two_pow_pos n
    obtain ⟨b, eb, ib⟩ := foldO_best (M := 2 ^ n) (P := P) (v := vf) (L := cS n) oc.up oc.all P0.out hpos
    rw [ex, eb] at hf
    have GW := Lib.hid (hX.gr G0.out (fun k hk => by omega))
    have c7 := hs.c7
    have HK := Lib.hid hK
    rcases hf with ⟨h1, _⟩ | ⟨b', h1, _, _, h2⟩
    · cases h1
    · cases h1
      have gp := grownBy_putObj' W D (.deferred none)
      have kp : ∀ r, some D = some r → ∃ o : Obj, W.heap[r]? = some o ∧ o.isCells = false := fun r er => by cases er; exact ⟨_, hK, rfl⟩
      have HL2 := Lib.hid (h2.own gp kp)
      have GP := Lib.hid (GW.out.grown gp (fun k er => by cases er; omega))
      have IB := Lib.hid ib
      clear hs hX hK h2 gp kp ib eb ex oc
      gi_wp2
      refine ⟨by simp, .inl ⟨_, _, rfl, run_takeDeferred HK.out, ?_⟩⟩
      obtain ⟨av, cv, rfl, m1, m2, m3⟩ := HL2.out.rd
      exact ⟨_, by simp [results, Tryd.f65, go_sem], b, IB.out, av, cv, rfl, m1, m2, m3, GP.out⟩
end Go.Proofs.YtohcnicadbpbbaaDoor
