/- Contracts of chapter 7: which list is first; the dearest cut, of the program and of the reference. -/
import Derived.Test.YtohcnicadbpbbaaDoorDE
import Derived.Test.YtohcnicadbpbbaaDoorWI
namespace Go.Proofs.YtohcnicadbpbbaaDoor
open Go.RowKit Go.Firn

/-- The dearest set. -/
def drB (f g : Nat → Int) (n : Nat) (P D : Int) : Nat := bestR (fun _ => true) (gS f g n P D) (cS n) (2 ^ n)
theorem best_eq {n b : Nat} {Q : Nat → Bool} {v : Nat → Int} (h0 : Q 0 = true) (h : IsBest (2 ^ n) Q v (cS n) b) : b = bestR Q v (cS n) (2 ^ n) := by
  have k := bestR_is (P := Q) (v := v) (L := cS n) h0 (2 ^ n - 1)
  have e : 2 ^ n - 1 + 1 = 2 ^ n := by have := Nat.two_pow_pos n; omega
  rw [e] at k
  exact h.unique (fun s t hs ht e => cS_inj hs ht e) k
theorem bestR_best {n : Nat} {Q : Nat → Bool} {v : Nat → Int} (h0 : Q 0 = true) : IsBest (2 ^ n) Q v (cS n) (bestR Q v (cS n) (2 ^ n)) := by
  have k := bestR_is (P := Q) (v := v) (L := cS n) h0 (2 ^ n - 1)
  have e : 2 ^ n - 1 + 1 = 2 ^ n := by have := Nat.two_pow_pos n; omega
  rw [e] at k
  exact k
theorem bestR_lt (Q : Nat → Bool) (v : Nat → Int) (L : Nat → List Nat) : ∀ k, bestR Q v L k = 0 ∨ bestR Q v L k < k
  | 0 => .inl rfl
  | k + 1 => by
    show (if _ then k else bestR Q v L k) = 0 ∨ (if _ then k else bestR Q v L k) < k + 1
    split
    · exact .inr (by omega)
    · exact (bestR_lt Q v L k).imp id (by omega)
theorem cS_zero (n : Nat) : cS n 0 = [] := by unfold cS onL; simp
theorem cS_cut (n s : Nat) : Cut n (cS n s).length (nf (cS n s)) := cut_onL _ n
theorem shl_i64 : ∀ n : Nat, n < 11 → IntKind.i64.wrap ((2 : Int) ^ n) = ((2 ^ n : Nat) : Int) ∧ wrap64 ((2 : Int) ^ n) = ((2 ^ n : Nat) : Int) := by decide +kernel

set_option maxHeartbeats 1000000 in
theorem dearest1_any (av : Value) (w : World) : Calls Tryd.prog 73 #[av] w (RetB true w) := by
  go_enter Tryd.func73, Tryd.ntmps73
  go_wp2_with fail
  go_ret
  exact ⟨rfl, Gr.refl _⟩
set_option maxHeartbeats 1000000 in
theorem dearest2_any (a a2 : Option Addr) (n c d b2 b3 : Nat) (f g : Nat → Int) (P D : Int) (w : World) (hr : RdI w a n f) (hs : RdI w a2 n g) (hv : VO n n f g) (hp : Prc P D) (B2 : Box4 w b2 (.slice a n c) (.slice a2 n d) (.int .i64 (sm f n)) (.int .i64 (sm g n))) (B3 : Box2 w b3 P D) (s B : Nat) (av : Value) (hx : LiB w B (cS n s) av) :
    Calls Tryd.prog 74 #[av, .pointer (some ⟨b2, 0, none⟩), .pointer (some ⟨b3, 0, none⟩)] w fun e w' => e = .returned (.int .i64 (gS f g n P D s)) ∧ Gr w w' := by
  obtain ⟨a3, c3, rfl, _, _, h3⟩ := hx.rd
  obtain ⟨p0, p1, p2, p3, _⟩ := B2
  obtain ⟨r0, r1, _⟩ := B3
  have C := Lib.hid (gain_any a a2 a3 n c d _ c3 f g _ P D w hr hs h3 hv (cS_cut n s) hp)
  rw [gnV_onL] at C
  clear hr hs hv hp hx h3
  go_enter Tryd.func74, Tryd.ntmps74
  go_wp2_with (go_at_call 43; (with_reducible refine C.out.mono ?_); rintro e w1 ⟨rfl, g1⟩)
  go_ret
  exact ⟨rfl, g1⟩

set_option maxHeartbeats 2000000 in
set_option maxRecDepth 100000 in
theorem dearest_any (a a2 : Option Addr) (n c d : Nat) (f g : Nat → Int) (P D : Int) (w : World) (hr : RdI w a n f) (hs : RdI w a2 n g) (hv : VO n n f g) (hp : Prc P D) (hT : Tab w) :
    Calls Tryd.prog 46 #[.agg #[.slice a n c, .slice a2 n d, .int .i64 (sm f n), .int .i64 (sm g n)], .agg #[.int .i64 P, .int .i64 D]] w (RetC (cS n (drB f g n P D)) w) := by
  obtain ⟨W0, hW0⟩ : ∃ W0, (w.alloc (.cells #[.slice a n c, .slice a2 n d, .int .i64 (sm f n), .int .i64 (sm g n)] 58)).alloc (.cells #[.int .i64 P, .int .i64 D] 26) = W0 := ⟨_, rfl⟩
  have G0 := Lib.hid (show Gr w W0 by rw [← hW0]; exact ((Gr.refl w).alloc _).alloc _)
  have B2 := Lib.hid (show Box4 W0 w.heap.size (.slice a n c) (.slice a2 n d) (.int .i64 (sm f n)) (.int .i64 (sm g n)) by rw [← hW0]; exact (Box4.new rfl).gr ((Gr.refl _).alloc _))
  have B3 := Lib.hid (show Box2 W0 (w.heap.size + 1) P D by rw [← hW0]; exact Box2.new (by simp))
  obtain ⟨p0, p1, p2, p3, _⟩ := B2.out
  have hmf : ∀ (fn : Fn) (first cap : Array Value) (w : World), (Instr.makeFunc fn first cap).run Tryd.prog w = .ok (.func fn first cap) w := fun _ _ _ _ => rfl
  have CB := Lib.hid (best_any a a2 n c d (sm f n) (sm g n) hv.noise.few 73 74 #[] #[.pointer (some ⟨w.heap.size, 0, none⟩), .pointer (some ⟨w.heap.size + 1, 0, none⟩)] (fun _ => true) (gS f g n P D) W0 (hT.gr G0.out)
    (enters_of Tryd.func73 (by kernel_rfl) rfl) (enters_of Tryd.func74 (by kernel_rfl) rfl) (fun w' _ s _ av B _ => dearest1_any av w')
    (fun w' k s _ av B hx => dearest2_any a a2 n c d _ _ f g P D w' (hr.gr (G0.out.trans k)) (hs.gr (G0.out.trans k)) hv hp (B2.out.gr k) (B3.out.gr k) s B av hx) rfl)
  have EB := Lib.hid (show ∀ b, IsBest (2 ^ n) (fun _ => true) (gS f g n P D) (cS n) b → drB f g n P D = b from fun b h => (best_eq (n := n) rfl h).symm)
  clear hr hs hv hp hT
  generalize sm f n = S at *
  generalize sm g n = T at *
  go_enter Tryd.func46, Tryd.ntmps46
  go_wp2_with (go_at_call 65; (with_reducible refine CB.out.mono ?_); rintro e w1 ⟨b, hb, av, cv, rfl, l1, l2, r1, g1⟩)
  go_ret
  rw [EB.out b hb]
  exact ⟨av, cv, rfl, l1, l2, r1, G0.out.trans g1⟩

/-- Two lists that are the same ahead of an index. -/
theorem lexI_ne {x y : Nat} {l m : List Nat} (h : x ≠ y) : (lexI (x :: l) (y :: m) < 0) ↔ x < y := by
  rw [lexI_cons]
  by_cases h1 : x < y
  · simp [h1]
  · rw [if_neg h1, if_pos (by omega)]
    simp [h1]
theorem lexI_same (x : Nat) (l m : List Nat) : lexI (x :: l) (x :: m) = lexI l m := by rw [lexI_cons]; simp
def fstB (L M : List Nat) : Bool := decide (cfL L M < 0)

set_option maxHeartbeats 2000000 in
theorem first_any (av bv : Option Addr) (c d : Nat) (L M : List Nat) (w : World) (hl : L.length ≤ 1000) (_hm : M.length ≤ 1000) (hr : RdI w av L.length (nf L)) (hs : RdI w bv M.length (nf M)) :
    Calls Tryd.prog 69 #[.slice av L.length c, .slice bv M.length d] w (RetB (fstB L M) w) := by
  have HR := Lib.hid hr
  have HS := Lib.hid hs
  by_cases he : L.length = M.length
  · have EV := Lib.hid (show fstB L M = decide (lexI (L.drop 0) (M.drop 0) < 0) by
      unfold fstB
      exact decide_eq_decide.2 (by rw [cfL_lt]; simp [he]))
    obtain ⟨V, hV⟩ : ∃ V, fstB L M = V := ⟨_, rfl⟩
    rw [hV] at EV ⊢
    have HE := Lib.hid he
    have e1 : ((L.length : Int) != (M.length : Int)) = false := by simp; omega
    have e2 : ((L.length : Int) == (M.length : Int)) = true := by simp; omega
    clear hr hs hV he
    go_enter Tryd.func69, Tryd.ntmps69
    go_wp2_with fail
    go_loopw [18] (fun i wr => ∃ k : Nat, k ≤ L.length ∧ i = .int .i64 k ∧ Hid (V = decide (lexI (L.drop k) (M.drop k) < 0)) ∧ Hid (Gr w wr)) (fun i _ => L.length - (intOf i).toNat)
    case atStart => exact ⟨0, by omega, rfl, EV, Lib.hid (by first | exact Gr.refl _ | exact (Gr.refl _).drew)⟩
    case round =>
      obtain ⟨k, hk, rfl, HV, HG⟩ := hrel
      by_cases hlt : k < L.length
      · have i1 : (k : Int) < (L.length : Int) := by omega
        have hlm : k < M.length := by have := HE.out; omega
        have i2 : (k : Int) < (M.length : Int) := by omega
        obtain ⟨b, o, e1, hc⟩ := (HR.out.gr HG.out).at hlt
        have cx := hc k hlt
        subst e1
        obtain ⟨b2, o2, e2, hc2⟩ := (HS.out.gr HG.out).at hlm
        have cy := hc2 k hlm
        subst e2
        clear hc hc2
        obtain ⟨x, r, ex, nx, dx⟩ := nf_drop hlt
        obtain ⟨y, s, ey, ny, dy⟩ := nf_drop hlm
        rw [nx] at cx
        rw [ny] at cy
        by_cases hxy : x = y
        · have EN := Lib.hid (show V = decide (lexI (L.drop (k + 1)) (M.drop (k + 1)) < 0) by rw [HV.out, ex, ey, hxy, lexI_same, dx, dy])
          clear ex nx dx ey ny dy HV
          have j1 : ((x : Int) != (y : Int)) = false := by simp; omega
          have j2 : ((x : Int) == (y : Int)) = true := by simp; omega
          clear hxy
          go_wp2_with fail
          go_quiet (fail)
          go_wp2_with fail
          go_roundw
          case rel => exact ⟨k + 1, hlt, by go_num, EN, Lib.hid (HG.out.drewN _)⟩
          case measure => simp [intOf]; omega
        · have EN := Lib.hid (show V = decide (x < y) by
            rw [HV.out, ex, ey]
            exact decide_eq_decide.2 (lexI_ne hxy))
          clear ex nx dx ey ny dy HV
          have j1 : ((x : Int) != (y : Int)) = true := by simp; omega
          have j2 : ((x : Int) == (y : Int)) = false := by simp; omega
          clear hxy
          go_wp2_with fail
          go_quiet (fail)
          go_wp2_with fail
          go_quiet (fail)
          go_wp2_with fail
          go_ret
          exact ⟨by rw [EN.out]; rfl, (HG.out.drewN _).drewN _⟩
      · have i1 : ¬ (k : Int) < (L.length : Int) := by omega
        have EN := Lib.hid (show V = false by
          have h1 : L.drop k = [] := List.drop_eq_nil_of_le (by omega)
          have h2 : M.drop k = [] := List.drop_eq_nil_of_le (by have := HE.out; omega)
          rw [HV.out, h1, h2]; rfl)
        go_wp2_with fail
        go_ret
        exact ⟨by rw [EN.out]; rfl, HG.out⟩
  · have EV := Lib.hid (show fstB L M = decide (L.length < M.length) by
      unfold fstB
      exact decide_eq_decide.2 (by rw [cfL_lt]; omega))
    have e1 : ((L.length : Int) != (M.length : Int)) = true := by simp; omega
    have e2 : ((L.length : Int) == (M.length : Int)) = false := by simp; omega
    rw [EV.out]
    clear hr hs he EV
    go_enter Tryd.func69, Tryd.ntmps69
    go_wp2_with fail
    go_ret
    exact ⟨rfl, by first | exact Gr.refl _ | exact (Gr.refl _).drew⟩

set_option maxHeartbeats 8000000 in
set_option maxRecDepth 100000 in
theorem refdearest_any (a a2 : Option Addr) (n c d : Nat) (f g : Nat → Int) (P D : Int) (w : World) (hr : RdI w a n f) (hs : RdI w a2 n g) (hv : VO n n f g) (hp : Prc P D) :
    Calls Tryd.prog 47 #[.agg #[.slice a n c, .slice a2 n d], .agg #[.int .i64 P, .int .i64 D]] w (RetC (cS n (drB f g n P D)) w) := by
  have n10 := hv.noise.few
  obtain ⟨W0, hW0⟩ : ∃ W0, (w.alloc (.cells #[.slice a n c, .slice a2 n d] 24)).alloc (.cells #[.int .i64 P, .int .i64 D] 26) = W0 := ⟨_, rfl⟩
  have G0 := Lib.hid (show Gr w W0 by rw [← hW0]; exact ((Gr.refl w).alloc _).alloc _)
  have BA := Lib.hid (show BoxO W0 w.heap.size (.slice a n c) (.slice a2 n d) by rw [← hW0]; exact (BoxO.new rfl).gr ((Gr.refl _).alloc _))
  have BP := Lib.hid (show Box2 W0 (w.heap.size + 1) P D by rw [← hW0]; exact Box2.new (by simp))
  obtain ⟨p0, p1⟩ := BA.out
  obtain ⟨s0, s1, _⟩ := BP.out
  have CO := Lib.hid (show ∀ (s : Nat), s < 1024 → ∀ (w' : World), Calls Tryd.prog 67 #[.agg #[.slice a n c, .slice a2 n d], .int .i64 s] w' (RetC (cS n s) w') from fun s hs w' => of_any a a2 n c n d s w' n10 hs)
  have CG := Lib.hid (show ∀ w', Gr w w' → ∀ s av B, LiB w' B (cS n s) av → Calls Tryd.prog 45 #[.agg #[.slice a n c, .slice a2 n d], av, .agg #[.int .i64 P, .int .i64 D]] w' fun e w'' => e = .returned (.int .i64 (gS f g n P D s)) ∧ Gr w' w'' from fun w' k s av B hx => by
    obtain ⟨a3, c3, rfl, _, _, h3⟩ := hx.rd
    have h := refgain_any a a2 a3 n c d _ c3 f g _ P D w' (hr.gr k) (hs.gr k) h3 hv (cS_cut n s) hp
    rwa [gnV_onL] at h)
  obtain ⟨N, hN⟩ : ∃ N, 2 ^ n = N := ⟨_, rfl⟩
  obtain ⟨sh1, sh2⟩ := shl_i64 n (by omega)
  have h10 := two_pow_le n10
  rw [hN] at sh1 sh2 h10
  have HN := Lib.hid hN
  obtain ⟨V, hV⟩ : ∃ V, gS f g n P D = V := ⟨_, rfl⟩
  rw [hV] at CG
  have ED := Lib.hid (show drB f g n P D = bestR (fun _ => true) V (cS n) N by unfold drB; rw [hV, hN])
  rw [ED.out]
  have BS := Lib.hid (show ∀ k, bestR (fun _ => true) V (cS n) (k + 1) = if (V (bestR (fun _ => true) V (cS n) k) < V k ∨ (V k = V (bestR (fun _ => true) V (cS n) k) ∧ cfL (cS n k) (cS n (bestR (fun _ => true) V (cS n) k)) < 0)) then k else bestR (fun _ => true) V (cS n) k from fun k => by show (if (fun _ => true) k = true ∧ _ then k else _) = _; simp)
  have HLen := Lib.hid (fun s => cS_len (n := n) s)
  clear hr hs hv hp hN hV ED
  go_enter Tryd.func47, Tryd.ntmps47
  go_wp2_with fail
  clear sh1 sh2 p0 p1 s0 s1
  go_loopw [5, 14] (fun v i wr => ∃ s : Nat, s ≤ N ∧ i = .int .i64 s ∧ Hid (Gr W0 wr) ∧ Hid (LiB wr 0 (cS n (bestR (fun _ => true) V (cS n) s)) v)) (fun _ i _ => N - (intOf i).toNat)
  case atStart => exact ⟨0, by omega, rfl, Lib.hid (by first | exact Gr.refl _ | exact (Gr.refl _).drew), Lib.hid ⟨none, 0, by rw [show bestR (fun _ => true) V (cS n) 0 = 0 from rfl, cS_zero]; rfl, by rw [show bestR (fun _ => true) V (cS n) 0 = 0 from rfl, cS_zero]; exact Nat.le_refl _, by unfold maxLen; omega, .inl (by rw [show bestR (fun _ => true) V (cS n) 0 = 0 from rfl, cS_zero]; rfl)⟩⟩
  case round =>
    obtain ⟨s, hs, rfl, HW, HL⟩ := hrel
    by_cases hlt : s < N
    · have i1 : (s : Int) < (N : Int) := by omega
      have GR := Lib.hid (G0.out.trans HW.out)
      have BAr := Lib.hid (BA.out.gr HW.out)
      have BPr := Lib.hid (BP.out.gr HW.out)
      obtain ⟨p0, p1⟩ := BAr.out
      have BN := Lib.hid (BS.out s)
      generalize bestR (fun _ => true) V (cS n) s = b at *
      obtain ⟨ab, cb, rfl, lb1, lb2, _⟩ := HL.out.rd
      go_wp2_with (go_at_call 67; (with_reducible refine (CO.out s (by omega) _).mono ?_); rintro e w1 ⟨al, cl, rfl, ll1, ll2, rl, g1⟩; have LL := Lib.hid (show LiB w1 0 (cS n s) (.slice al (cS n s).length cl) from ⟨al, cl, rfl, ll1, ll2, rl.imp id fun ⟨b, o, e, h⟩ => ⟨b, o, e, Nat.zero_le _, h⟩⟩); have HL1 := Lib.hid (HL.out.gr g1); have G1 := Lib.hid (GR.out.trans g1); have W1 := Lib.hid (HW.out.trans g1); have BA1 := Lib.hid (BAr.out.gr g1); have BP1 := Lib.hid (BPr.out.gr g1); clear p0 p1 rl g1; obtain ⟨p0, p1⟩ := BA1.out; obtain ⟨s0, s1, _⟩ := BP1.out)
      refine (wpIn_wide (n := 3)).1 ?_
      refine wpIn_region_held (fun w' => Gr w1 w') 10 (by kernel_rfl) rfl rfl ?_
      have hS : Gr w1 w1.drew := (Gr.refl w1).drew
      iterate 6 (first
        | (refine wpAnyHIn_take 0 (v := ?_) rfl (by kernel_rfl) (by kernel_rfl) (by kernel_rfl) (by decide +kernel) (fun _ _ _ h => h) (fun _ _ _ => trivial) (by rfl) (fun w' hSw => ?_) hS ?_; rotate_left 1; (focus (have z0 := hSw.cell p0; have z1 := hSw.cell p1; have z2 := hSw.cell s0; have z3 := hSw.cell s1; go_simp; try with_reducible rfl)); simp only [Act.put, List.setIfInBounds_toArray, List.set_cons_zero, List.set_cons_succ])
        | (refine wpAnyHIn_take 1 (v := ?_) rfl (by kernel_rfl) (by kernel_rfl) (by kernel_rfl) (by decide +kernel) (fun _ _ _ h => h) (fun _ _ _ => trivial) (by rfl) (fun w' hSw => ?_) hS ?_; rotate_left 1; (focus (have z0 := hSw.cell p0; have z1 := hSw.cell p1; have z2 := hSw.cell s0; have z3 := hSw.cell s1; go_simp; try with_reducible rfl)); simp only [Act.put, List.setIfInBounds_toArray, List.set_cons_zero, List.set_cons_succ])
        | (refine wpAnyHIn_take 2 (v := ?_) rfl (by kernel_rfl) (by kernel_rfl) (by kernel_rfl) (by decide +kernel) (fun _ _ _ h => h) (fun _ _ _ => trivial) (by rfl) (fun w' hSw => ?_) hS ?_; rotate_left 1; (focus (have z0 := hSw.cell p0; have z1 := hSw.cell p1; have z2 := hSw.cell s0; have z3 := hSw.cell s1; go_simp; try with_reducible rfl)); simp only [Act.put, List.setIfInBounds_toArray, List.set_cons_zero, List.set_cons_succ])
        | (refine wpAnyHIn_take 4 (v := ?_) rfl (by kernel_rfl) (by kernel_rfl) (by kernel_rfl) (by decide +kernel) (fun _ _ _ h => h) (fun _ _ _ => trivial) (by rfl) (fun w' hSw => ?_) hS ?_; rotate_left 1; (focus (have z0 := hSw.cell p0; have z1 := hSw.cell p1; have z2 := hSw.cell s0; have z3 := hSw.cell s1; go_simp; try with_reducible rfl)); simp only [Act.put, List.setIfInBounds_toArray, List.set_cons_zero, List.set_cons_succ])
        | (refine wpAnyHIn_take 5 (v := ?_) rfl (by kernel_rfl) (by kernel_rfl) (by kernel_rfl) (by decide +kernel) (fun _ _ _ h => h) (fun _ _ _ => trivial) (by rfl) (fun w' hSw => ?_) hS ?_; rotate_left 1; (focus (have z0 := hSw.cell p0; have z1 := hSw.cell p1; have z2 := hSw.cell s0; have z3 := hSw.cell s1; go_simp; try with_reducible rfl)); simp only [Act.put, List.setIfInBounds_toArray, List.set_cons_zero, List.set_cons_succ])
        | (refine wpAnyHIn_take 6 (v := ?_) rfl (by kernel_rfl) (by kernel_rfl) (by kernel_rfl) (by decide +kernel) (fun _ _ _ h => h) (fun _ _ _ => trivial) (by rfl) (fun w' hSw => ?_) hS ?_; rotate_left 1; (focus (have z0 := hSw.cell p0; have z1 := hSw.cell p1; have z2 := hSw.cell s0; have z3 := hSw.cell s1; go_simp; try with_reducible rfl)); simp only [Act.put, List.setIfInBounds_toArray, List.set_cons_zero, List.set_cons_succ]))
      refine wpAnyHIn_ready [3] (by kernel_rfl) (by simp) ?_
      refine AllHIn.cons rfl (by rfl) (fun K hK => ?_) AllHIn.nil
      go_simp
      refine ⟨trivial, ?_⟩
      refine (callsIn_wide.2 (CG.out _ (G1.out.trans hS) s _ 0 (LL.out.gr hS))).mono ?_
      rintro e wX ⟨rfl, gX⟩
      have hS : Gr w1 wX := hS.trans gX
      refine hK.out _ _ hS ?_
      clear hK K gX
      refine wpAnyHIn_ready [7] (by kernel_rfl) (by simp) ?_
      refine AllHIn.cons rfl (by rfl) (fun K hK => ?_) AllHIn.nil
      go_simp
      refine ⟨trivial, ?_⟩
      refine (callsIn_wide.2 (CG.out _ (G1.out.trans hS) b _ _ (HL1.out.gr hS))).mono ?_
      rintro e wX ⟨rfl, gX⟩
      have hS : Gr w1 wX := hS.trans gX
      refine hK.out _ _ hS ?_
      clear hK K gX
      iterate 2 (first
        | (refine wpAnyHIn_take 8 (v := ?_) rfl (by kernel_rfl) (by kernel_rfl) (by kernel_rfl) (by decide +kernel) (fun _ _ _ h => h) (fun _ _ _ => trivial) (by rfl) (fun w' hSw => ?_) hS ?_; rotate_left 1; (focus (skip; go_simp; try with_reducible rfl)); simp only [Act.put, List.setIfInBounds_toArray, List.set_cons_zero, List.set_cons_succ])
        | (refine wpAnyHIn_take 9 (v := ?_) rfl (by kernel_rfl) (by kernel_rfl) (by kernel_rfl) (by decide +kernel) (fun _ _ _ h => h) (fun _ _ _ => trivial) (by rfl) (fun w' hSw => ?_) hS ?_; rotate_left 1; (focus (skip; go_simp; try with_reducible rfl)); simp only [Act.put, List.setIfInBounds_toArray, List.set_cons_zero, List.set_cons_succ]))
      refine wpAnyHIn_done (by kernel_rfl) ?_ _
      have HS2 := Lib.hid hS
      have HLx := Lib.hid (HL1.out.gr hS)
      have LLx := Lib.hid (LL.out.gr hS)
      have Wx1 := Lib.hid (W1.out.trans hS)
      clear hS
      have CF := Lib.hid (show ∀ w', Gr wX w' → Calls Tryd.prog 69 #[.slice al (cS n s).length cl, .slice ab (cS n b).length cb] w' (RetB (fstB (cS n s) (cS n b)) w') from fun w' k => by
        obtain ⟨_, _, e1, _, _, r1⟩ := (LLx.out.gr k).rd
        obtain ⟨_, _, e2, _, _, r2⟩ := (HLx.out.gr k).rd
        cases e1
        cases e2
        have := HLen.out s
        have := HLen.out b
        exact first_any al ab cl cb (cS n s) (cS n b) w' (by omega) (by omega) r1 r2)
      by_cases h1 : V b < V s
      · have EB := Lib.hid (show bestR (fun _ => true) V (cS n) (s + 1) = s by rw [BN.out, if_pos (.inl h1)])
        have h1' : V s > V b := h1
        clear BN
        go_wp2_with fail
        go_roundw
        case rel => exact ⟨s + 1, hlt, by go_num, Wx1, by rw [EB.out]; exact LLx⟩
        case measure => simp [intOf]; omega
      · have h1' : ¬ V s > V b := h1
        by_cases h2 : V s = V b
        · have e1 : ((V s : Int) == V b) = true := by simp [h2]
          cases hf : fstB (cS n s) (cS n b) with
          | true =>
            rw [hf] at CF
            have EB := Lib.hid (show bestR (fun _ => true) V (cS n) (s + 1) = s by rw [BN.out, if_pos (.inr ⟨h2, of_decide_eq_true hf⟩)])
            clear BN hf h2
            go_wp2_with (go_at_call 69; (with_reducible refine (CF.out _ (by first | exact Gr.refl _ | exact (Gr.refl _).drew)).mono ?_); rintro e w5 ⟨rfl, g5⟩; have W5 := Lib.hid (Wx1.out.trans g5); have LL5 := Lib.hid (LLx.out.gr g5); clear g5)
            go_roundw
            case rel => exact ⟨s + 1, hlt, by go_num, W5, by rw [EB.out]; exact LL5⟩
            case measure => simp [intOf]; omega
          | false =>
            rw [hf] at CF
            have EB := Lib.hid (show bestR (fun _ => true) V (cS n) (s + 1) = b by rw [BN.out, if_neg (fun h => h.elim h1 fun h => of_decide_eq_false hf h.2)])
            clear BN hf h2
            go_wp2_with (go_at_call 69; (with_reducible refine (CF.out _ (by first | exact Gr.refl _ | exact (Gr.refl _).drew)).mono ?_); rintro e w5 ⟨rfl, g5⟩; have W5 := Lib.hid (Wx1.out.trans g5); have HL5 := Lib.hid (HLx.out.gr g5); clear g5)
            go_roundw
            case rel => exact ⟨s + 1, hlt, by go_num, W5, by rw [EB.out]; exact HL5⟩
            case measure => simp [intOf]; omega
        · have e1 : ((V s : Int) == V b) = false := by simp [h2]
          have EB := Lib.hid (show bestR (fun _ => true) V (cS n) (s + 1) = b by rw [BN.out, if_neg (fun h => h.elim h1 fun h => h2 h.1)])
          clear BN h2
          go_wp2_with fail
          go_roundw
          case rel => exact ⟨s + 1, hlt, by go_num, Wx1, by rw [EB.out]; exact HLx⟩
          case measure => simp [intOf]; omega
    · have n1 : ¬ (s : Int) < (N : Int) := by omega
      have ES := Lib.hid (show s = N by omega)
      clear hlt
      obtain ⟨ab, cb, rfl, l1, l2, r1⟩ := HL.out.rd
      have R1 := Lib.hid r1
      clear r1
      go_wp2_with fail
      go_ret
      rw [← ES.out]
      exact ⟨ab, cb, rfl, l1, l2, R1.out, G0.out.trans HW.out⟩

end Go.Proofs.YtohcnicadbpbbaaDoor
