/- Contracts of chapter 5: the first witness that tells most, of the program. -/
import Derived.Test.YtbhndfnfohoidaaW9
import Derived.Lib.LazyBuf
namespace Go.Proofs.Ytbhndfnfohoidaa
open Go.RowKit Go.Firn Go.Shelf
attribute [local go_sem] Oper.semAt_some
attribute [local simp] wide_fn

theorem all_any (a : Option Addr) (n c : Nat) (w : World) :
    Calls Try.prog 89 #[.slice a n c] w fun e w' => e = .returned (.func (.func 103) #[] #[.pointer (some ⟨w.heap.size, 0, none⟩)]) ∧ w' = w.alloc (.cells #[.slice a n c] 22) := by
  have hmf : ∀ (fn : Fn) (first cap : Array Value) (w : World), (Instr.makeFunc fn first cap).run Try.prog w = .ok (.func fn first cap) w := fun _ _ _ _ => rfl
  go_enter Try.func89, Try.ntmps89
  go_wp2_with fail
  go_ret
  exact ⟨rfl, rfl⟩

/-- What was found so far, in memory. -/
structure Ws (W : World) (b4 b5 : Nat) (s : Wst) (v : Value) : Prop where
  c4 : W.cell? ⟨b4, 0, none⟩ = some v
  f4 : W.frozen? ⟨b4, 0, none⟩ = false
  c5 : Box2 W b5 s.N s.D
  lv : (s.l = [] ∧ v = .slice none 0 0) ∨ (s.l ≠ [] ∧ ∃ g, b4 < g ∧ g ≠ b5 ∧ v = .slice (some ⟨g, 0, none⟩) s.l.length s.l.length ∧ HxW (g, s.l) W)

theorem Box2.own {W W' : World} {b : Nat} {x y : Int} {row : Option Nat} (h : Box2 W b x y) (hg : W.grownBy W' row) (hr : ∀ r, row = some r → ∃ o : Obj, W.heap[r]? = some o ∧ o.isCells = false) : Box2 W' b x y :=
  ⟨cell_kept h.1 hg hr, cell_kept h.2.1 hg hr, (frozen_kept h.1 hg hr).trans h.2.2.1, (frozen_kept h.2.1 hg hr).trans h.2.2.2⟩
theorem Ws.own {W W' : World} {b4 b5 : Nat} {s : Wst} {v : Value} {row : Option Nat} (h : Ws W b4 b5 s v) (hg : W.grownBy W' row) (hr : ∀ r, row = some r → ∃ o : Obj, W.heap[r]? = some o ∧ o.isCells = false) : Ws W' b4 b5 s v :=
  ⟨cell_kept h.c4 hg hr, (frozen_kept h.c4 hg hr).trans h.f4, Box2.own h.c5 hg hr, h.lv.imp id (fun ⟨h1, g, h2, h3, h4, h5⟩ => ⟨h1, g, h2, h3, h4, fun i hi => cell_kept (h5 i hi) hg hr⟩)⟩
/-- The caller's invariant. -/
def Iw (n : Nat) (X Y : Nat → Int) (b4 b5 : Nat) (W0 : World) (pre : List Wit) (W : World) : Prop :=
  (∃ v, Ws W b4 b5 (witS X Y (pre.map (·.2))) v) ∧ Wx (fun k => k = b4 ∨ k = b5) W0 W ∧ ∀ L ∈ pre.map (·.2), IsWit n X L
theorem Iw.own (n : Nat) (X Y : Nat → Int) (b4 b5 : Nat) (W0 : World) : OwnFrom W0.heap.size (Iw n X Y b4 b5 W0) := fun _ _ _ _ hs hg hr => by
  obtain ⟨⟨v, h1⟩, h2, h3⟩ := hs
  exact ⟨⟨v, h1.own hg (fun r e => (hr r e).2)⟩, h2.own hg (fun r e => (hr r e).1), h3⟩
theorem Gr.others {W W' : World} (h : Gr W W') : KeepsOthers W W' := ⟨h.size, fun k o hk _ => by
  have := Below.block h k (Array.getElem?_eq_some_iff.1 hk).1
  exact this.trans hk⟩

theorem wit_sz {a b : Int} (h1 : 0 ≤ a ∧ a ≤ 800000) (h2 : 0 < b ∧ b ≤ 400) : Sz (a * b) := by
  have l : 0 ≤ a * b := Int.mul_nonneg h1.1 (by omega)
  have u : a * b ≤ 800000 * 400 := Int.mul_le_mul h1.2 h2.2 (by omega) (by omega)
  exact ⟨by omega, by omega⟩
theorem wit_tr {X Y : Nat → Int} {s : Wst} {L : List Nat} (h : s.l ≠ []) :
    (cmpI (tlN X Y L.length (nf L) * s.D) (s.N * tlD X Y L.length (nf L)) = 1 ∧ wstep X Y s L = ⟨L, LN X Y L, LD X Y L⟩) ∨ ((cmpI (tlN X Y L.length (nf L) * s.D) (s.N * tlD X Y L.length (nf L)) = 0 ∨ cmpI (tlN X Y L.length (nf L) * s.D) (s.N * tlD X Y L.length (nf L)) = -1) ∧ wstep X Y s L = s) := by
  unfold wstep LN LD cmpI
  generalize tlN X Y L.length (nf L) * s.D = p
  generalize s.N * tlD X Y L.length (nf L) = q
  by_cases h1 : q < p
  · exact .inl ⟨by rw [if_neg (by omega), if_pos h1], if_pos (.inr h1)⟩
  · refine .inr ⟨?_, if_neg (fun h' => h'.elim h h1)⟩
    by_cases h2 : p < q
    · exact .inr (if_pos h2)
    · exact .inl (by rw [if_neg h2, if_neg h1])

/-- The end of a round in which the witness is taken. -/
theorem round_take {n b4 b5 : Nat} {X Y : Nat → Int} {W0 W w2 : World} {pre : List Wit} {x : Wit} {s : Wst} {N D : Int} (hne : b4 ≠ b5) (hx4 : b4 < x.1) (hx5 : x.1 ≠ b5)
    (hX : Wx (fun k => k = b4 ∨ k = b5) W0 W) (g2 : Gr W w2) (hm : HxW x W) (hl : ∀ L ∈ (pre ++ [x]).map (·.2), IsWit n X L) (hs : witS X Y ((pre ++ [x]).map (·.2)) = ⟨x.2, N, D⟩) (hnil : x.2 ≠ [])
    {v0 : Value} (e4 : w2.cell? ⟨b4, 0, none⟩ = some v0) (k4 : w2.frozen? ⟨b4, 0, none⟩ = false) (B : Box2 w2 b5 s.N s.D) {W' : World}
    (hW' : Gr (((w2.setCell ⟨b4, 0, none⟩ (.slice (some ⟨x.1, 0, none⟩) x.2.length x.2.length)).setCell ⟨b5, 0, none⟩ (.int .i64 N)).setCell ⟨b5, 1, none⟩ (.int .i64 D)) W') :
    KeepsOthers W W' ∧ Kc (fun k => k ≠ b4 ∧ k ≠ b5) W W' ∧ Iw n X Y b4 b5 W0 (pre ++ [x]) W' := by
  have hw : Wx (fun k => k = b4 ∨ k = b5) W W' :=
    ((((Wx.of_gr g2).set (.inl rfl) 0 _).set (.inr rfl) 0 _).set (.inr rfl) 1 _).trans (Wx.of_gr hW')
  have hk : KeepsOthers W W' :=
    ((((Gr.others g2).trans (KeepsOthers.setCell _ _ _)).trans (KeepsOthers.setCell _ _ _)).trans (KeepsOthers.setCell _ _ _)).trans (Gr.others hW')
  refine ⟨hk, fun p v hp e => hw.cell e (fun h => h.elim hp.1 hp.2), ⟨⟨.slice (some ⟨x.1, 0, none⟩) x.2.length x.2.length, ?_⟩, hX.trans hw, hl⟩⟩
  rw [hs]
  have c4 := cell_far (k := 1) (cell_far (k := 0) (World.cell?_setCell_same' w2 ⟨b4, 0, none⟩ (.slice (some ⟨x.1, 0, none⟩) x.2.length x.2.length) (by rw [e4]; rfl)) (Ne.symm hne) (.int .i64 N)) (Ne.symm hne) (.int .i64 D)
  refine ⟨hW'.cell c4, ?_, ?_, .inr ⟨hnil, x.1, hx4, hx5, rfl, fun i hi => ?_⟩⟩
  · rw [Below.frozen hW' (p := ⟨b4, 0, none⟩) (World.block_lt_of_cell? _ _ c4)]
    simpa using k4
  · exact ((B.far1 hne _).put (x' := N) (y' := D)).gr hW'
  · exact hW'.cell (cell_far (cell_far (cell_far (g2.cell (hm i hi)) (show b4 ≠ x.1 by omega) _) (Ne.symm hx5) _) (Ne.symm hx5) _)
theorem round_keep {n b4 b5 : Nat} {X Y : Nat → Int} {W0 W : World} {pre : List Wit} {x : Wit} {s : Wst} {v : Value}
    (hX : Wx (fun k => k = b4 ∨ k = b5) W0 W) (hl : ∀ L ∈ (pre ++ [x]).map (·.2), IsWit n X L) (hs : witS X Y ((pre ++ [x]).map (·.2)) = s)
    (H : Ws W b4 b5 s v) {W' : World} (g : Gr W W') :
    KeepsOthers W W' ∧ Kc (fun k => k ≠ b4 ∧ k ≠ b5) W W' ∧ Iw n X Y b4 b5 W0 (pre ++ [x]) W' := by
  refine ⟨Gr.others g, fun p v _ e => g.cell e, ⟨⟨v, ?_⟩, hX.trans (Wx.of_gr g), hl⟩⟩
  rw [hs]
  exact ⟨g.cell H.c4, (Below.frozen g (p := ⟨b4, 0, none⟩) (World.block_lt_of_cell? _ _ H.c4)).trans H.f4, H.c5.gr g, H.lv.imp id (fun ⟨h1, g', h2, h3, h4, h5⟩ => ⟨h1, g', h2, h3, h4, fun i hi => g.cell (h5 i hi)⟩)⟩

/-- The first of all witnesses that tells most (none: a nil slice), and what it tells. -/
def RetWit (n : Nat) (X Y : Nat → Int) (w : World) (e : Ending) (w' : World) : Prop :=
  ∃ v, e = .returned (.tuple #[v, .agg #[.int .i64 (witS X Y (wits n X)).N, .int .i64 (witS X Y (wits n X)).D]]) ∧
    (((witS X Y (wits n X)).l = [] ∧ v = .slice none 0 0) ∨ ((witS X Y (wits n X)).l ≠ [] ∧ ∃ g, v = .slice (some ⟨g, 0, none⟩) (witS X Y (wits n X)).l.length (witS X Y (wits n X)).l.length ∧ HxW (g, (witS X Y (wits n X)).l) w')) ∧ Gr w w'
theorem wit_end {b3 b4 b5 D : Nat} {w W W1 W' : World} {s : Wst} {v : Value} {N Dn : Int} (hb3 : w.heap.size ≤ b3) (h34 : b3 ≤ b4) (hD : w.heap.size ≤ D) (hD3 : D ≠ b3) (g : Gr w W) (h : Ws W b4 b5 s v) (B : Box2 W b3 0 0) (hK : W.heap[D]? = some (.deferred (some [])))
    (e1 : W1 = ((W.setCell ⟨b3, 0, none⟩ (.int .i64 N)).setCell ⟨b3, 1, none⟩ (.int .i64 Dn)).drew) (e : W' = W1.putObj D (.deferred none)) :
    W1.heap[D]? = some (.deferred (some [])) ∧ Box2 W' b3 N Dn ∧ ((s.l = [] ∧ v = .slice none 0 0) ∨ (s.l ≠ [] ∧ ∃ g, v = .slice (some ⟨g, 0, none⟩) s.l.length s.l.length ∧ HxW (g, s.l) W')) ∧ Gr w W' := by
  have hK1 : W1.heap[D]? = some (.deferred (some [])) := by
    rw [e1]
    show ((W.setCell ⟨b3, 0, none⟩ (.int .i64 N)).setCell ⟨b3, 1, none⟩ (.int .i64 Dn)).heap[D]? = _
    rw [Below.heap_setCell _ _ _ _ hD3, Below.heap_setCell _ _ _ _ hD3]; exact hK
  have B1 : Box2 W1 b3 N Dn := by rw [e1]; exact Box2.drew B.put
  have G1 : Gr w W1 := by rw [e1]; exact ((g.setAt hb3 _).setAt hb3 _).drew
  have gp := grownBy_putObj' W1 D (.deferred none)
  have kp : ∀ r, some D = some r → ∃ o : Obj, W1.heap[r]? = some o ∧ o.isCells = false := fun r er => by cases er; exact ⟨_, hK1, rfl⟩
  rw [← e] at gp
  refine ⟨hK1, Box2.own B1 gp kp, h.lv.imp id ?_, G1.grown gp (fun k er => by cases er; exact hD)⟩
  rintro ⟨h1, g', h2, h3, h4, h5⟩
  refine ⟨h1, g', h4, fun i hi => cell_kept ?_ gp kp⟩
  rw [e1]
  exact cell_far (cell_far (h5 i hi) (show b3 ≠ g' by omega) _) (show b3 ≠ g' by omega) _

set_option maxHeartbeats 4000000 in
set_option maxRecDepth 100000 in
theorem witness_any (b o n c : Nat) (X Y : Nat → Int) (V : VP n X Y) (w : World) (hr : RdM w (some ⟨b, o, none⟩) n X Y) :
    Calls Try.prog 63 #[.slice (some ⟨b, o, none⟩) n c] w (RetWit n X Y w) := by
  have HV := Lib.hid V
  have n2 := V.two
  have n12 := V.few
  have HR := Lib.hid hr
  clear V hr
  refine (callsIn_wide (n := 3)).1 ?_
  refine callsIn_of_wp_marks Try.func63 rfl trivial ?_ rfl
  simp only [Try.ntmps63, List.size_toArray, List.length_cons, List.length_nil, Nat.reduceAdd, Nat.reduceSub, Array.replicate_succ, Array.replicate_zero, List.push_toArray, List.append_toArray, List.nil_append, List.cons_append]
  gi_wp2_with (gi_at_call 89; refine (callsIn_wide.2 (all_any _ _ _ _)).mono ?_; rintro e w' ⟨rfl, rfl⟩)
  generalize hW0 : ((((w.alloc _).alloc _).alloc _).alloc _).alloc _ = W0
  have S0 : W0.heap.size = w.heap.size + 5 := by rw [← hW0]; simp
  have G0 := Lib.hid (show Gr w W0 by rw [← hW0]; exact (((((Gr.refl w).alloc _).alloc _).alloc _).alloc _).alloc _)
  have B3 := Lib.hid (show Box2 W0 (w.heap.size + 1) 0 0 by rw [← hW0]; exact (Box2.new (by simp)).gr ((((Gr.refl _).alloc _).alloc _).alloc _))
  have B4 := Lib.hid (show W0.cell? ⟨w.heap.size + 1 + 1, 0, none⟩ = some (.slice none 0 0) ∧ W0.frozen? ⟨w.heap.size + 1 + 1, 0, none⟩ = false by rw [← hW0]; exact ((((Gr.refl _).alloc _).alloc _).fresh' (by simp) rfl))
  have B5 := Lib.hid (show Box2 W0 (w.heap.size + 1 + 1 + 1) 0 1 by rw [← hW0]; exact (Box2.new (by simp)).gr ((Gr.refl _).alloc _))
  have B1 := Lib.hid (show W0.cell? ⟨w.heap.size, 0, none⟩ = some (.slice (some ⟨b, o, none⟩) n c) by rw [← hW0]; exact (((((Gr.refl _).alloc _).alloc _).alloc _).alloc _).fresh' (by simp) rfl |>.1)
  have B6 := Lib.hid (show W0.cell? ⟨w.heap.size + 1 + 1 + 1 + 1, 0, none⟩ = some (.slice (some ⟨b, o, none⟩) n c) by rw [← hW0]; exact (Gr.refl _).fresh' (by simp) rfl |>.1)
  have LB := Lib.hid (show b < w.heap.size from by obtain ⟨b', o', e, hc⟩ := HR.out.at (show 0 < n by omega); simp at e; obtain ⟨rfl, rfl⟩ := e; exact World.block_lt_of_cell? w _ (hc 0 (by omega)).1)
  clear hW0
  refine rangeFunc_mem rfl (by omega) (gf := 103) (lb := #[.pointer (some ⟨w.heap.size + 1 + 1 + 1 + 1, 0, none⟩)]) rfl trivial (enters_of Try.func103 (by kernel_rfl) rfl)
    (all1_seq (K := fun k => k ≠ w.heap.size + 1 + 1 ∧ k ≠ w.heap.size + 1 + 1 + 1) _ (by omega) (w.heap.size + 1 + 1 + 1 + 1) b o n c X Y W0 n12 (by omega) B6.out (HR.out.gr G0.out) (by omega) (by have := LB.out; omega))
    Kc.trans (fun W l o o' _ h hc _ => Kc.putObj W l o o' h hc) (fun x W l o o' hx h hc => ⟨fun i hi => cell_putObj h hc (hx.1 i hi), hx.2⟩) (Below.refl _ _) (fun _ => rfl)
    (Iw n X Y (w.heap.size + 1 + 1) (w.heap.size + 1 + 1 + 1) W0) (Iw.own n X Y _ _ W0)
    ⟨⟨_, B4.out.1, B4.out.2, B5.out, .inl ⟨rfl, rfl⟩⟩, Wx.refl _ _, fun L hL => by cases hL⟩
    (fun x => { tmps := #[.slice (some ⟨b, o, none⟩) n c, .pointer (some ⟨w.heap.size, 0, none⟩), .slice none 0 0, .pointer (some ⟨w.heap.size + 1, 0, none⟩), .pointer (some ⟨w.heap.size + 1 + 1, 0, none⟩), .pointer (some ⟨w.heap.size + 1 + 1 + 1, 0, none⟩), .slice (some ⟨x.1, 0, none⟩) x.2.length x.2.length, undef, undef, .agg #[.int .i64 0, .int .i64 1], .slice (some ⟨b, o, none⟩) n c, .func (.func 103) #[] #[.pointer (some ⟨w.heap.size + 1 + 1 + 1 + 1, 0, none⟩)], .slice (some ⟨x.1, 0, none⟩) x.2.length x.2.length, undef, undef, undef, undef, undef, undef, undef, undef, undef, undef, undef, undef, undef, undef, undef, undef, undef, undef], defers := [] }) ?assign ?body ?done
  case assign =>
    intro l x W K hK
    unfold encW
    gi_wp2
    exact hK
  case body =>
    rintro l pre x W ⟨⟨v, hs⟩, hX, hl⟩ ⟨hm, hw, hbs⟩
    have GW := Lib.hid (hX.gr G0.out (fun k hk => by omega))
    have CB := Lib.hid (hX.cell B1.out (by simp; omega))
    have cb := CB.out
    have WX := Lib.hid hX
    have HL := Lib.hid hl
    have HS := Lib.hid hs
    have HM := Lib.hid hm
    have ok := HV.out.ok
    have L3 : x.2.length ≤ 1000 := by have := hw.2; omega
    have CT := Lib.hid (tells_any (some ⟨b, o, none⟩) n c X Y HV.out (some ⟨x.1, 0, none⟩) x.2.length x.2.length (nf x.2) W L3 (Nat.le_refl _) (HR.out.gr GW.out) (.inr ⟨x.1, 0, rfl, fun i hi => by rw [Nat.zero_add]; exact hm i hi⟩))
    have BL := Lib.hid (LND_bd (Y := Y) ok hw)
    have BS := Lib.hid (witS_bd (Y := Y) ok hl)
    have SN := Lib.hid (show witS X Y ((pre ++ [x]).map (·.2)) = wstep X Y (witS X Y (pre.map (·.2))) x.2 by rw [List.map_append]; exact witS_snoc X Y _ _)
    have HI := Lib.hid (show ∀ L ∈ (pre ++ [x]).map (·.2), IsWit n X L from fun L hL => by
      rw [List.map_append, List.mem_append] at hL
      rcases hL with hL | hL
      · exact hl L hL
      · obtain rfl := List.mem_singleton.1 hL
        exact hw)
    have NE := Lib.hid (show x.2 ≠ [] from fun e => by have := hw.2; rw [e] at this; simp at this)
    have W1 := Lib.hid hw.1
    have hd : 1 ≤ 3 - 1 - 1 := by omega
    have c4 := hs.c4
    have f4 := hs.f4
    obtain ⟨m0, m1, m2, m3⟩ := hs.c5
    have LV := Lib.hid hs.lv
    clear hs hm hl hX ok
    generalize witS X Y (pre.map (·.2)) = s at *
    have eqn := fun (a : Option Addr) (n c : Nat) (w' : World) => run_eql_slice_nil (P := Try.prog) w' 23 3 a n c Try.underlying23
    have HB5 := Lib.hid (show Box2 W (w.heap.size + 1 + 1 + 1) s.N s.D from ⟨m0, m1, m2, m3⟩)
    have TL := Lib.hid (show tlN X Y x.2.length (nf x.2) = LN X Y x.2 ∧ tlD X Y x.2.length (nf x.2) = LD X Y x.2 from ⟨rfl, rfl⟩)
    rcases LV.out with ⟨hnil, rfl⟩ | ⟨hsome, g, gn4, gn5, rfl, hG⟩
    · have ST := Lib.hid (show wstep X Y s x.2 = ⟨x.2, LN X Y x.2, LD X Y x.2⟩ by unfold wstep; rw [if_pos (.inl hnil)])
      have eq1 := eqn none 0 0
      clear eqn
      gi_wp2_with (first
        | (gi_at_call 57; refine (CallsIn.inRound l (callsIn_wide.2 CT.out)).mono ?_; rintro e w2 ⟨N, D, rfl, hND, g2⟩; obtain ⟨rfl, rfl⟩ := hND W1.out; rw [W1.out]; have G2 := Lib.hid g2; have e4 := g2.cell c4; have k4 := (Below.frozen g2 (p := ⟨w.heap.size + 1 + 1, 0, none⟩) (World.block_lt_of_cell? W _ c4)).trans f4; obtain ⟨q0, q1, q2, q3⟩ := HB5.out.gr g2; have e1 := g2.cell cb; have l4 : w.heap.size + 1 + 1 < w2.heap.size := World.block_lt_of_cell? w2 _ e4; have l5 : w.heap.size + 1 + 1 + 1 < w2.heap.size := World.block_lt_of_cell? w2 _ q0; clear hND g2))
      gi_region
      all_goals gi_wp2
      all_goals exact round_take (by omega) (by omega) (by omega) WX.out G2.out HM.out HI.out (SN.out.trans ST.out) NE.out e4 k4 ⟨q0, q1, q2, q3⟩ ((Gr.refl _).alloc _).drew
    · have eq1 := eqn (some ⟨g, 0, none⟩) s.l.length s.l.length
      clear eqn
      have BT := Lib.hid (show (0 ≤ tlN X Y x.2.length (nf x.2) ∧ tlN X Y x.2.length (nf x.2) ≤ 800000) ∧ 0 < tlD X Y x.2.length (nf x.2) ∧ tlD X Y x.2.length (nf x.2) ≤ 400 from BL.out)
      have CC := fun (w' : World) => compare_any (tlN X Y x.2.length (nf x.2)) (tlD X Y x.2.length (nf x.2)) s.N s.D w' (wit_sz BT.out.1 BS.out.2) (wit_sz BS.out.1 BT.out.2)
      have CC := Lib.hid CC
      have TR : (cmpI (tlN X Y x.2.length (nf x.2) * s.D) (s.N * tlD X Y x.2.length (nf x.2)) = 1 ∧ wstep X Y s x.2 = ⟨x.2, LN X Y x.2, LD X Y x.2⟩) ∨ ((cmpI (tlN X Y x.2.length (nf x.2) * s.D) (s.N * tlD X Y x.2.length (nf x.2)) = 0 ∨ cmpI (tlN X Y x.2.length (nf x.2) * s.D) (s.N * tlD X Y x.2.length (nf x.2)) = -1) ∧ wstep X Y s x.2 = s) := wit_tr hsome
      rcases TR with ⟨cv, st⟩ | ⟨cv, st⟩
      · have CV := Lib.hid cv
        have ST := Lib.hid st
        clear cv st
        gi_wp2_with (first
          | (gi_at_call 57; refine (CallsIn.inRound l (callsIn_wide.2 CT.out)).mono ?_; rintro e w2 ⟨N, D, rfl, hND, g2⟩; obtain ⟨rfl, rfl⟩ := hND W1.out; rw [W1.out]; have G2 := Lib.hid g2; have e4 := g2.cell c4; have k4 := (Below.frozen g2 (p := ⟨w.heap.size + 1 + 1, 0, none⟩) (World.block_lt_of_cell? W _ c4)).trans f4; obtain ⟨q0, q1, q2, q3⟩ := HB5.out.gr g2; have e1 := g2.cell cb; have l4 : w.heap.size + 1 + 1 < w2.heap.size := World.block_lt_of_cell? w2 _ e4; have l5 : w.heap.size + 1 + 1 + 1 < w2.heap.size := World.block_lt_of_cell? w2 _ q0; clear hND g2)
          | (gi_at_call 85; refine (CallsIn.inRound l (callsIn_wide.2 (CC.out _))).mono ?_; rintro e w3 ⟨rfl, g3⟩; rw [CV.out]; have G23 := Lib.hid (((Gr.refl w2).alloc _).trans g3); have z0 := (g3.fresh' (b := w2.heap.size) (j := 0) rfl rfl).1; have z1 := (g3.fresh' (b := w2.heap.size) (j := 1) rfl rfl).1; have s4 := G23.out.cell e4; have t4 := (Below.frozen G23.out (p := ⟨w.heap.size + 1 + 1, 0, none⟩) (World.block_lt_of_cell? w2 _ e4)).trans k4; obtain ⟨p0, p1, p2, p3⟩ := (show Box2 w2 (w.heap.size + 1 + 1 + 1) s.N s.D from ⟨q0, q1, q2, q3⟩).gr G23.out; clear g3))
        gi_region
        all_goals gi_wp2
        all_goals exact round_take (by omega) (by omega) (by omega) WX.out (G2.out.trans G23.out) HM.out HI.out (SN.out.trans ST.out) NE.out s4 t4 ⟨p0, p1, p2, p3⟩ (by first | exact Gr.refl _ | exact (Gr.refl _).drew)
      · have ST := Lib.hid st
        clear st
        rcases cv with cv | cv
        all_goals (
          have CV := Lib.hid cv
          clear cv
          gi_wp2_with (first
            | (gi_at_call 57; refine (CallsIn.inRound l (callsIn_wide.2 CT.out)).mono ?_; rintro e w2 ⟨N, D, rfl, hND, g2⟩; obtain ⟨rfl, rfl⟩ := hND W1.out; rw [W1.out]; have G2 := Lib.hid g2; have e4 := g2.cell c4; have k4 := (Below.frozen g2 (p := ⟨w.heap.size + 1 + 1, 0, none⟩) (World.block_lt_of_cell? W _ c4)).trans f4; obtain ⟨q0, q1, q2, q3⟩ := HB5.out.gr g2; have e1 := g2.cell cb; have l4 : w.heap.size + 1 + 1 < w2.heap.size := World.block_lt_of_cell? w2 _ e4; have l5 : w.heap.size + 1 + 1 + 1 < w2.heap.size := World.block_lt_of_cell? w2 _ q0; clear hND g2)
            | (gi_at_call 85; refine (CallsIn.inRound l (callsIn_wide.2 (CC.out _))).mono ?_; rintro e w3 ⟨rfl, g3⟩; rw [CV.out]; have G23 := Lib.hid (((Gr.refl w2).alloc _).trans g3); clear g3))
          exact round_keep WX.out HI.out (SN.out.trans ST.out) HS.out (by first | exact G2.out.trans G23.out | exact (G2.out.trans G23.out).drew))
  case done =>
    rintro D xs W hD hxs ⟨⟨v, hs⟩, hX, _⟩ hK
    rw [hxs] at hs
    have GW := Lib.hid (hX.gr G0.out (fun k hk => by omega))
    have NB : ∀ k, k = w.heap.size + 1 → ¬(k = w.heap.size + 1 + 1 ∨ k = w.heap.size + 1 + 1 + 1) := fun k hk => by omega
    have B3' : Box2 W (w.heap.size + 1) 0 0 := ⟨hX.cell B3.out.1 (NB _ rfl), hX.cell B3.out.2.1 (NB _ rfl), (hX.frozen B3.out.1 (NB _ rfl)).trans B3.out.2.2.1, (hX.frozen B3.out.2.1 (NB _ rfl)).trans B3.out.2.2.2⟩
    clear NB hX hxs
    have HE := fun (W1 W' : World) => wit_end (W1 := W1) (W' := W') (N := (witS X Y (wits n X)).N) (Dn := (witS X Y (wits n X)).D) (show w.heap.size ≤ w.heap.size + 1 by omega) (show w.heap.size + 1 ≤ w.heap.size + 1 + 1 by omega) (show w.heap.size ≤ D by omega) (show D ≠ w.heap.size + 1 by omega) GW.out hs B3' hK
    have HE := Lib.hid HE
    have c4 := hs.c4
    obtain ⟨m0, m1, m2, m3⟩ := hs.c5
    obtain ⟨p0, p1, p2, p3⟩ := B3'
    obtain ⟨s, hs0⟩ : ∃ s, witS X Y (wits n X) = s := ⟨_, rfl⟩
    rw [hs0] at m0 m1
    clear hs
    have HS0 := Lib.hid hs0
    clear hs0
    have l3 : w.heap.size + 1 < W.heap.size := World.block_lt_of_cell? W _ p0
    gi_wp2
    gi_region
    gi_wp2
    obtain ⟨k1, k2, k3, k4⟩ := HE.out _ _ (by rw [HS0.out]) rfl
    refine ⟨by simp, .inl ⟨_, _, rfl, run_takeDeferred k1, ?_⟩⟩
    rw [HS0.out] at k2 k3
    obtain ⟨r0, r1, _⟩ := k2
    refine ⟨.tuple #[v, .agg #[.int .i64 s.N, .int .i64 s.D]], by simp [results, Try.f63, go_sem, r0, r1], v, ?_⟩
    rw [HS0.out]
    exact ⟨rfl, k3, k4⟩

end Go.Proofs.Ytbhndfnfohoidaa
