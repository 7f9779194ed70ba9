/- Contracts of chapter 1: where, and how much, two clocks differ most, by the program. Contracts of chapter 1: whether two clocks have the same time everywhere. The plain law of Apart and Same, second part: the place, and where two clocks are the same. Contracts of chapter 1: Apart and Same, of the program and of the reference: the same answers. Contracts of chapter 1: how much two times differ, by the law; and the plain facts of TickFar. -/
import Derived.Test.YtdlbgelidcfmiaaGreatDoorW31
namespace Go.Firn
open Go.RowKit
theorem cell_new1' (w : World) (v : Value) (e : TypeId) (b : Nat) (hb : w.heap.size = b) : (w.alloc (.cells #[v] e)).cell? ⟨b, 0, none⟩ = some v := by subst hb; exact cell_new1 w v e
theorem OwnI.lit2 {w0 w : World} (g : Gr w0 w) (F G : Int) (f : Nat → Int) (h0 : f 0 = F) (h1 : f 1 = G) : OwnI w0 3 (w.alloc (.cells #[.int .i64 F, .int .i64 G] 3)) (.slice (some ⟨w.heap.size, 0, none⟩) 2 2) 2 f := by
  have gg : Gr w0 (w.alloc (.cells #[.int .i64 F, .int .i64 G] 3)) := g.alloc _
  subst h0
  subst h1
  exact ⟨⟨rfl, .inr ⟨w.heap.size, _, _, rfl, g.size, heap_alloc_new w _, Nat.le_refl _, by unfold maxLen; omega, rfl, rfl⟩⟩, gg⟩
/-- The row's block is of the row's type. -/
theorem own_type {w0 w w' : World} {e e' : TypeId} {size n : Nat} {v : Value} {xs : List Value} {cur' : Array Value} {b : Nat} (h : w.ownsRow w0.heap.size e size v n xs) (g : Gr w w') (hb : some b = v.ownBlock) (hc : w'.heap[b]? = some (.cells cur' e')) (hne : e ≠ e' := by decide) : False := by
  obtain ⟨_, hv⟩ := h
  rcases hv with ⟨rfl, _⟩ | ⟨b', cap, cur, rfl, _, hg, _⟩
  · cases hb
  · obtain rfl : b = b' := by simpa [Value.ownBlock] using hb
    rw [Below.block g b (Array.getElem?_eq_some_iff.1 hg).1, hg] at hc
    cases hc
    exact hne rfl
end Go.Firn
namespace Go.Proofs.YtdlbgelidcfmiaaGreatDoor
open Go.RowKit Go.Firn

/-- The ends and the first k marks between them. -/
def wl (F G : Int) (f : Nat → Int) : Nat → List Int
  | 0 => [F, G]
  | k + 1 => if btw F (f k) G = true then wl F G f k ++ [f k] else wl F G f k
theorem wl_yes {F G : Int} {f : Nat → Int} {k : Nat} (h : btw F (f k) G = true) : wl F G f (k + 1) = wl F G f k ++ [f k] := by rw [wl, if_pos h]
theorem wl_no {F G : Int} {f : Nat → Int} {k : Nat} (h : btw F (f k) G = false) : wl F G f (k + 1) = wl F G f k := by rw [wl, if_neg (by rw [h]; decide)]
theorem wl_len (F G : Int) (f : Nat → Int) : ∀ k, 2 ≤ (wl F G f k).length ∧ (wl F G f k).length ≤ k + 2
  | 0 => by simp [wl]
  | k + 1 => by
    have := wl_len F G f k
    cases h : btw F (f k) G
    · rw [wl_no h]; omega
    · rw [wl_yes h, List.length_append]; simp; omega
theorem wl_prefix (F G : Int) (f : Nat → Int) (k : Nat) : ∀ d, wl F G f k <+: wl F G f (k + d)
  | 0 => List.prefix_refl _
  | d + 1 => by
    refine (wl_prefix F G f k d).trans ?_
    rw [← Nat.add_assoc]
    cases h : btw F (f (k + d)) G
    · rw [wl_no h]; exact List.prefix_refl _
    · rw [wl_yes h]; exact List.prefix_append _ _
theorem wl_at {F G : Int} {f : Nat → Int} {k N : Nat} (hk : k < N) (h : btw F (f k) G = true) : (wl F G f N).getD (wl F G f k).length 0 = f k := by
  obtain ⟨t, e⟩ := wl_prefix F G f (k + 1) (N - (k + 1))
  rw [show k + 1 + (N - (k + 1)) = N by omega, wl_yes h] at e
  rw [← e]
  simp
theorem wl_01 (F G : Int) (f : Nat → Int) (N : Nat) : (wl F G f N).getD 0 0 = F ∧ (wl F G f N).getD 1 0 = G := by
  obtain ⟨t, e⟩ := wl_prefix F G f 0 N
  rw [Nat.zero_add] at e
  rw [← e]
  exact ⟨rfl, rfl⟩
theorem wl_mem (F G : Int) (f : Nat → Int) (y : Int) : ∀ k, y ∈ wl F G f k ↔ y = F ∨ y = G ∨ ∃ i, i < k ∧ (F ≤ f i ∧ f i ≤ G) ∧ f i = y
  | 0 => by simp [wl]
  | k + 1 => by
    have ih := wl_mem F G f y k
    cases h : btw F (f k) G
    · rw [wl_no h, ih]
      constructor
      · rintro (a | a | ⟨i, hi, a⟩)
        · exact .inl a
        · exact .inr (.inl a)
        · exact .inr (.inr ⟨i, by omega, a⟩)
      · rintro (a | a | ⟨i, hi, a⟩)
        · exact .inl a
        · exact .inr (.inl a)
        · rcases Nat.lt_or_eq_of_le (Nat.le_of_lt_succ hi) with hi | rfl
          · exact .inr (.inr ⟨i, hi, a⟩)
          · exact absurd a.1 (btw_false.1 h)
    · rw [wl_yes h, List.mem_append, ih, List.mem_singleton]
      constructor
      · rintro ((a | a | ⟨i, hi, a⟩) | a)
        · exact .inl a
        · exact .inr (.inl a)
        · exact .inr (.inr ⟨i, by omega, a⟩)
        · exact .inr (.inr ⟨k, by omega, btw_true.1 h, a.symm⟩)
      · rintro (a | a | ⟨i, hi, a⟩)
        · exact .inl (.inl a)
        · exact .inl (.inr (.inl a))
        · rcases Nat.lt_or_eq_of_le (Nat.le_of_lt_succ hi) with hi | rfl
          · exact .inl (.inr (.inr ⟨i, hi, a⟩))
          · exact .inr a.2.symm

theorem PrM.bd {p q : Int → Int} {F G : Int} {S : Nat → Int} {k : Nat} {a : Int} (h : PrM p q F S k a) (hFG : F ≤ G) (hS : ∀ i, i < k → F ≤ S i ∧ S i ≤ G) : F ≤ a ∧ a ≤ G := by
  rcases h.1 with rfl | ⟨j, hj, rfl⟩
  · omega
  · exact hS j hj

/-- The places that the program looks at. -/
def WS (F G : Int) (f : Nat → Int) (N : Nat) (y : Int) : Prop := y = F ∨ y = G ∨ ∃ i, i < N ∧ (F ≤ f i ∧ f i ≤ G) ∧ f i = y
def whX (F G : Int) (f : Nat → Int) (N i : Nat) : Int := (wl F G f N).getD i 0
def RetPf (p q : Int → Int) (W : Int → Prop) (w : World) (e : Ending) (w' : World) : Prop := ∃ m, IsMx p q W m ∧ RetIRE m (p m) (q m) 0 w e w'

theorem whX_in {F G : Int} {f : Nat → Int} {N i : Nat} (h : i < (wl F G f N).length) : WS F G f N (whX F G f N i) := by
  unfold WS whX
  rw [← wl_mem, List.getD_eq_getElem?_getD, List.getElem?_eq_getElem h]
  exact List.getElem_mem h
theorem whX_of {F G : Int} {f : Nat → Int} {N : Nat} {y : Int} (h : WS F G f N y) : ∃ i, i < (wl F G f N).length ∧ whX F G f N i = y := by
  unfold WS at h
  rw [← wl_mem] at h
  obtain ⟨i, hi, e⟩ := List.getElem_of_mem h
  refine ⟨i, hi, ?_⟩
  unfold whX
  rw [List.getD_eq_getElem?_getD, List.getElem?_eq_getElem hi]
  exact e
theorem srX_fin {p q : Int → Int} {F G : Int} {f : Nat → Int} {N : Nat} {a : Int} (h : PrM p q F (srF (whX F G f N) (wl F G f N).length) (wl F G f N).length a) : IsMx p q (WS F G f N) a := by
  refine h.fin (.inl rfl) (fun y hy => ?_) fun i hi => ?_
  · obtain ⟨k, hk, e⟩ := whX_of hy
    obtain ⟨i, hi, e2⟩ := mem_srF (X := whX F G f N) hk
    exact .inr ⟨i, hi, e2.trans e⟩
  · obtain ⟨k, hk, e⟩ := srF_mem (X := whX F G f N) hi
    rw [e]
    exact whX_in hk
theorem srX_bd {F G : Int} (h : F ≤ G) {f : Nat → Int} {N i : Nat} (hi : i < (wl F G f N).length) : F ≤ srF (whX F G f N) (wl F G f N).length i ∧ srF (whX F G f N) (wl F G f N).length i ≤ G := by
  obtain ⟨k, hk, e⟩ := srF_mem (X := whX F G f N) hi
  rw [e]
  rcases whX_in hk with a | a | ⟨j, _, a, b⟩
  · omega
  · omega
  · omega

set_option maxRecDepth 100000 in
set_option maxHeartbeats 4000000 in
theorem Apart_ok (a a' : Option Addr) (n c n' c' : Nat) (L T L' T' : Nat → Int) (F G : Int) (w : World) (hr : RdM w a n L T) (hr' : RdM w a' n' L' T') (hv : vK n L T = true) (hv' : vK n' L' T' = true)
    (hF : 0 ≤ F ∧ F ≤ 100000) (hG : 0 ≤ G ∧ G ≤ 100000) (hFG : F ≤ G) :
    Calls Tryz.prog 19 #[.slice a n c, .slice a' n' c', .int .i64 F, .int .i64 G] w (RetPf (apN n L T n' L' T') (apD n L T n' L' T') (WS F G (px (pairs n L T ++ pairs n' L' T')) (n + n')) w) := by
  obtain ⟨hn2, hn30, -, -⟩ := vK_true.1 hv
  obtain ⟨hn2', hn30', -, -⟩ := vK_true.1 hv'
  have Q := Lib.hid (fun y => apD_pos hv hv' y)
  have BD := Lib.hid (fun (x : Int) (hx : -200000 ≤ x ∧ x ≤ 200000) => ap_bd hv hv' hx)
  have RA := Lib.hid (fun (x : Int) (hx : -200000 ≤ x ∧ x ≤ 200000) w1 h h' => apart_any a a' n c n' c' L T L' T' x w1 (by omega) (by omega) h h' hv hv' hx)
  have V1 := Lib.hid (fun w1 h => show Calls Tryz.prog 27 #[.slice a n c] w1 (RetB true w1) by have := ValidClock_any a n c L T w1 (by omega) h; rwa [hv] at this)
  have V2 := Lib.hid (fun w1 h => show Calls Tryz.prog 27 #[.slice a' n' c'] w1 (RetB true w1) by have := ValidClock_any a' n' c' L' T' w1 (by omega) h; rwa [hv'] at this)
  have HR := Lib.hid hr
  have HR' := Lib.hid hr'
  have T1 := Lib.hid (fun w1 => (isLocal_v (n := F) (btw_true.2 hF) w1).mono fun _ _ h => (⟨h.1, h.2.symm⟩ : _ ∧ w1 = _))
  have T2 := Lib.hid (fun w1 => (isLocal_v (n := G) (btw_true.2 hG) w1).mono fun _ _ h => (⟨h.1, h.2.symm⟩ : _ ∧ w1 = _))
  have CC := Lib.hid (fun bb w1 h h' h0 h1 => by
    obtain ⟨b, o, rfl, _⟩ := hr.at (k := 0) (by omega)
    obtain ⟨b', o', rfl, _⟩ := hr'.at (k := 0) (by omega)
    exact Concat_any b b' o o' bb n c n' c' L T L' T' w1 (by omega) (by omega) (by omega) (by omega) h h' h0 h1 : ∀ (bb : Nat) (w1 : World) (_ : RdM w1 a n L T) (_ : RdM w1 a' n' L' T') (_ : w1.cell? ⟨bb, 0, none⟩ = some (.slice a n c)) (_ : w1.cell? ⟨bb, 1, none⟩ = some (.slice a' n' c')), Calls Tryz.prog 43 #[.slice (some ⟨bb, 0, none⟩) 2 2] w1 (RetMB (pairs n L T ++ pairs n' L' T') 55 w1))
  have HL := Lib.hid (show (pairs n L T ++ pairs n' L' T').length = n + n' by rw [List.length_append, pairs_length, pairs_length])
  clear hv hv' hr hr'
  generalize apN n L T n' L' T' = p at *
  generalize apD n L T n' L' T' = q at *
  generalize pairs n L T ++ pairs n' L' T' = ms at *
  have g0 : Gr w (w.alloc (.cells #[.int .i64 0, .int .i64 0] 37)) := (Gr.refl w).alloc _
  have B9 : Hid (Box2 (w.alloc (.cells #[.int .i64 0, .int .i64 0] 37)) w.heap.size 0 0) := Lib.hid (Box2.new rfl)
  have HZ := Lib.hid (show (w.alloc (.cells #[.int .i64 0, .int .i64 0] 37)).heap.size = w.heap.size + 1 by simp)
  have d1 : decide (G < F) = false := by simp; omega
  go_enter Tryz.func19, Tryz.ntmps19
  generalize hw0 : w.alloc (.cells #[.int .i64 0, .int .i64 0] 37) = w0 at g0 B9 HZ
  have gz : Gr w0 w0 := Gr.refl w0
  go_wp2_with fail
  clear hw0
  refine (V1.out _ (HR.out.gr g0)).mono ?_
  rintro e w1 ⟨rfl, g2⟩
  replace gz := gz.trans g2
  clear g2
  go_wp2_with fail
  refine (V2.out _ (HR'.out.gr (g0.trans gz))).mono ?_
  rintro e w2 ⟨rfl, g2⟩
  replace gz := gz.trans g2
  clear g2
  have OW : Hid (OwnI w0 3 (w2.alloc (.cells #[.int .i64 F, .int .i64 G] 3)) (.slice (some ⟨w2.heap.size, 0, none⟩) 2 2) 2 (whX F G (px ms) (n + n'))) := Lib.hid (OwnI.lit2 gz F G _ (wl_01 F G (px ms) (n + n')).1 (wl_01 F G (px ms) (n + n')).2)
  go_wp2_with (first | (go_at_call 42; refine (T1.out _).mono ?_; rintro e w1 ⟨rfl, rfl⟩) | (go_at_call 42; refine (T2.out _).mono ?_; rintro e w1 ⟨rfl, rfl⟩))
  have ga := ((Gr.refl w2).alloc (.cells #[.int .i64 F, .int .i64 G] 3)).alloc (.cells #[.slice a n c, .slice a' n' c'] 23)
  have gb := Gr.refl ((w2.alloc (.cells #[.int .i64 F, .int .i64 G] 3)).alloc (.cells #[.slice a n c, .slice a' n' c'] 23))
  replace gz := gz.trans ga
  replace OW := Lib.hid (OW.out.alloc (.cells #[.slice a n c, .slice a' n' c'] 23))
  have c0 := (gb.fresh' (b := w2.heap.size + 1) (j := 0) (by simp) rfl).1
  have c1 := (gb.fresh' (b := w2.heap.size + 1) (j := 1) (by simp) rfl).1
  refine (CC.out _ _ (HR.out.gr (g0.trans gz)) (HR'.out.gr (g0.trans gz)) c0 c1).mono ?_
  clear c0 c1 ga gb
  rintro e w3 ⟨b3, c3, cur3, rfl, hb3, hr3, g2⟩
  replace OW := Lib.hid (OW.out.gr g2)
  rw [HL.out] at hr3 ⊢
  obtain ⟨b3', o3, e3, hc⟩ := hr3.at (k := 0) (by omega)
  cases e3
  have HC := Lib.hid (fun (wr : World) (hb : wr.heap[b3]? = some (.cells cur3 55)) k (hk : k < n + n') => by
    have e : wr.heap[b3]? = w3.heap[b3]? := by rw [hb, hb3]
    rw [World.cell?_of_block (a := ⟨b3, 0 + k * 2, none⟩) e, World.cell?_of_block (a := ⟨b3, 0 + k * 2 + 1, none⟩) e]
    exact hc k hk : ∀ (wr : World) (_ : wr.heap[b3]? = some (.cells cur3 55)) (k : Nat) (_ : k < n + n'), wr.cell? ⟨b3, 0 + k * 2, none⟩ = some (.int .i64 (px ms k)) ∧ wr.cell? ⟨b3, 0 + k * 2 + 1, none⟩ = some (.int .i64 (py ms k)))
  clear hc hr3 g2 gz
  have HB3 := Lib.hid hb3
  clear hb3
  have d2 : ((n + n' : Nat) : Int) = (n : Int) + (n' : Int) := by omega
  go_wp2_with fail
  go_loopw [11, 13, 52] (fun sv _ i wr => ∃ k : Nat, k ≤ n + n' ∧ i = .int .i64 k ∧ Hid (OwnI w0 3 wr sv (wl F G (px ms) k).length (whX F G (px ms) (n + n'))) ∧ Hid (wr.heap[b3]? = some (.cells cur3 55))) (fun _ _ i _ => (n + n') - (intOf i).toNat)
  case atStart => exact ⟨0, by omega, rfl, OW, HB3⟩
  case round =>
    obtain ⟨k, hk, rfl, hown, hb⟩ := hrel
    clear OW HB3
    by_cases hlt : k < n + n'
    · obtain ⟨c0, c1⟩ := HC.out wr hb.out k hlt
      rw [Nat.zero_add] at c0 c1
      have d3 : decide ((k : Int) < (n : Int) + (n' : Int)) = true := by simp; omega
      have hle := Lib.hid (wl_len F G (px ms) k)
      have hbl : b3 < wr.heap.size := (Array.getElem?_eq_some_iff.1 hb.out).1
      have gk := (Gr.refl wr).alloc (.cells #[.int .i64 (px ms k), .int .i64 (py ms k)] 55)
      cases hbt : btw F (px ms k) G with
      | true =>
        have E := Lib.hid (wl_yes hbt)
        have X := Lib.hid (show whX F G (px ms) (n + n') (wl F G (px ms) k).length = px ms k from wl_at hlt hbt)
        have CV := Lib.hid (fun w1 => (between_v hbt w1).mono fun _ _ h => (⟨h.1, h.2.symm⟩ : _ ∧ w1 = _))
        clear hbt
        go_wp2_with (first | (go_at_call 38; refine (CV.out _).mono ?_; rintro e w1 ⟨rfl, rfl⟩) | (at_builtin; go_must (refine wpList_app_int rfl _ _ 22 3 rfl Tryz.underlying22 Tryz.info3 _ (wl F G (px ms) k).length _ rfl ((hown.out.alloc _).alloc _) (wr.heap.size + 1) _ rfl (cell_new1' _ _ _ _ (by simp)) X.out (by have := hle.out; omega) ?_); intro v1 w4 hown1 hgr))
        go_roundw
        case rel =>
          refine ⟨k + 1, by omega, by go_num, ?_, ?_⟩
          · rw [E.out, List.length_append]; exact hown1
          · have hb4 : ((wr.alloc (.cells #[.int .i64 (px ms k), .int .i64 (py ms k)] 55)).alloc (.cells #[.int .i64 (px ms k)] 3)).heap[b3]? = some (.cells cur3 55) := by
              rw [Below.block (gk.alloc _) b3 hbl]; exact hb.out
            have hw := hgr.block b3 (Array.getElem?_eq_some_iff.1 hb4).1 ?_
            · exact hw.trans hb4
            · intro e
              exact own_type (Hid.out hown).1 (gk.alloc _) e hb4
        case measure => simp [intOf]; omega
      | false =>
        have E := Lib.hid (wl_no hbt)
        have CV := Lib.hid (fun w1 => (between_v hbt w1).mono fun _ _ h => (⟨h.1, h.2.symm⟩ : _ ∧ w1 = _))
        clear hbt
        go_wp2_with (go_at_call 38; refine (CV.out _).mono ?_; rintro e w1 ⟨rfl, rfl⟩)
        go_roundw
        case rel =>
          refine ⟨k + 1, by omega, by go_num, ?_, ?_⟩
          · rw [E.out]; exact hown.out.alloc _
          · rw [Below.block gk b3 hbl]; exact hb.out
        case measure => simp [intOf]; omega
    · obtain rfl : k = n + n' := by omega
      have d3 : decide (((n + n' : Nat) : Int) < (n : Int) + (n' : Int)) = false := by simp
      have hle := Lib.hid (wl_len F G (px ms) (n + n'))
      have FIN := Lib.hid (fun (a : Int) (h : PrM p q F (srF (whX F G (px ms) (n + n')) (wl F G (px ms) (n + n')).length) (wl F G (px ms) (n + n')).length a) => srX_fin h)
      have SB := Lib.hid (fun i (hi : i < (wl F G (px ms) (n + n')).length) => srX_bd hFG hi)
      have SM := Lib.hid (fun i j (h : i ≤ j) (hj : j < (wl F G (px ms) (n + n')).length) => srF_mono (X := whX F G (px ms) (n + n')) h hj)
      have SO := Lib.hid (SortT_any 3 w0 wr _ u11 _ (by have := hle.out; omega) (by have := hle.out; omega) hown.out)
      clear hown hb HC
      generalize WS F G (px ms) (n + n') = W at *
      generalize whX F G (px ms) (n + n') = X at *
      generalize (wl F G (px ms) (n + n')).length = m at *
      generalize srF X m = S at *
      go_wp2_with fail
      refine SO.out.mono ?_
      rintro e w4 ⟨rfl, b5, c5, rfl, hb5, hs, g5⟩
      have HS := Lib.hid hs
      clear hs SO
      go_wp2_with fail
      refine (RA.out F (by omega) _ (HR.out.gr (g0.trans g5)) (HR'.out.gr (g0.trans g5))).mono ?_
      rintro e w5 ⟨rfl, g6⟩
      have hz5 : w4.heap.size ≤ w5.heap.size := g6.size
      have hb5 : b5 < w4.heap.size := World.block_lt_of_cell? w4 _ (HS.out 0 (by have := hle.out; omega))
      have B15 : Hid (Box2 (w5.alloc (.cells #[.int .i64 (p F), .int .i64 (q F)] 37)) w5.heap.size (p F) (q F)) := Lib.hid (Box2.new rfl)
      replace g6 := g6.alloc (.cells #[.int .i64 (p F), .int .i64 (q F)] 37)
      go_wp2_with fail
      go_loopw [14, 17, 18, 76] (fun at_ _ _ i wr => ∃ (mm : Int) (k : Nat), at_ = .int .i64 mm ∧ i = .int .i64 k ∧ k ≤ m ∧ Hid (PrM p q F S k mm) ∧ Hid (Box2 wr w5.heap.size (p mm) (q mm)) ∧ Gr w4 wr) (fun _ _ _ i _ => m - (intOf i).toNat)
      case atStart => exact ⟨F, 0, rfl, rfl, by omega, PrM.start F S, B15, g6⟩
      case round =>
        obtain ⟨mm, k, rfl, rfl, hk, HP, hb15, g⟩ := hrel
        clear B15 g6
        by_cases hlt : k < m
        · have cs := g.cell (HS.out k hlt)
          have hm62 : m ≤ 62 := by have := hle.out; omega
          have hsk := SB.out k hlt
          have hmm : F ≤ mm ∧ mm ≤ G := HP.out.bd hFG fun i hi => SB.out i (by omega)
          have bx := BD.out (S k) (by omega)
          have bm := BD.out mm (by omega)
          have CO := Lib.hid (fun w1 => compare_any (p (S k)) (q (S k)) (p mm) (q mm) w1 (by omega) (by omega) (by omega) (by omega))
          have HX := Lib.hid (show -200000 ≤ S k ∧ S k ≤ 200000 by omega)
          have HFS := Lib.hid hsk.1
          clear bx bm hsk hmm
          go_wp2_with fail
          refine (RA.out _ HX.out _ (HR.out.gr ((g0.trans g5).trans g)) (HR'.out.gr ((g0.trans g5).trans g))).mono ?_
          rintro e w6 ⟨rfl, g7⟩
          have g8 := g7.trans ((Gr.refl w6).alloc (.cells #[.int .i64 (p (S k)), .int .i64 (q (S k))] 37))
          have B15 := Lib.hid (hb15.out.gr g8)
          have h15 : w5.heap.size < w6.heap.size := World.block_lt_of_cell? w6 _ (hb15.out.gr g7).1
          have B18 : Hid (Box2 (w6.alloc (.cells #[.int .i64 (p (S k)), .int .i64 (q (S k))] 37)) w6.heap.size (p (S k)) (q (S k))) := Lib.hid (Box2.new rfl)
          replace g8 := g.trans g8
          clear g g7 hb15 cs
          obtain ⟨s0, s1, f0, f1⟩ := id B15.out
          obtain ⟨s2, s3, f2, f3⟩ := id B18.out
          by_cases ht : p mm * q (S k) < p (S k) * q mm
          · have HT := Lib.hid (HP.out.yes Q.out ht)
            have CV := Lib.hid (fun w1 => show Calls Tryz.prog 46 #[.agg #[.int .i64 (p (S k)), .int .i64 (q (S k))], .agg #[.int .i64 (p mm), .int .i64 (q mm)]] w1 fun e w' => e = .returned (.int .i64 1) ∧ Gr w1 w' by
              have h := CO.out w1
              rw [show cmpI (p (S k) * q mm) (p mm * q (S k)) = 1 by unfold cmpI; rw [if_neg (by omega), if_pos ht]] at h
              exact h)
            clear ht CO
            go_wp2_with fail
            refine (CV.out _).mono ?_
            rintro e w7 ⟨rfl, g9⟩
            replace B15 := Lib.hid (B15.out.gr g9)
            replace B18 := Lib.hid (B18.out.gr g9)
            replace g8 := g8.trans g9
            clear g9 s0 s1 f0 f1 s2 s3 f2 f3 CV
            obtain ⟨s0, s1, f0, f1⟩ := id B15.out
            obtain ⟨s2, s3, f2, f3⟩ := id B18.out
            go_wp2_with fail
            go_region
            all_goals go_wp2_with fail
            go_roundw
            case rel => exact ⟨S k, k + 1, rfl, by go_num, by omega, HT, Lib.hid B15.out.put.drew, ((g8.setAt (by omega) _).setAt (by omega) _).drew⟩
            case measure => simp [intOf]; omega
          · have HT := Lib.hid (HP.out.no ht HFS.out fun j hj => SM.out j k (by omega) hlt)
            have CV := Lib.hid (fun w1 => show Calls Tryz.prog 46 #[.agg #[.int .i64 (p (S k)), .int .i64 (q (S k))], .agg #[.int .i64 (p mm), .int .i64 (q mm)]] w1 fun e w' => (∃ r : Int, decide (0 < r) = false ∧ e = .returned (.int .i64 r)) ∧ Gr w1 w' by
              refine (CO.out w1).mono ?_
              rintro e w' ⟨rfl, g⟩
              refine ⟨⟨_, ?_, rfl⟩, g⟩
              rw [decide_eq_false_iff_not]
              unfold cmpI
              repeat' split
              all_goals omega)
            clear ht CO
            go_wp2_with fail
            refine (CV.out _).mono ?_
            rintro e w7 ⟨⟨r, hr0, rfl⟩, g9⟩
            replace B15 := Lib.hid (B15.out.gr g9)
            replace g8 := g8.trans g9
            clear g9 s0 s1 f0 f1 s2 s3 f2 f3 CV B18
            go_wp2_with fail
            go_roundw
            case rel => exact ⟨mm, k + 1, rfl, by go_num, by omega, HT, B15, g8⟩
            case measure => simp [intOf]; omega
        · obtain rfl : k = m := by omega
          have HW := Lib.hid (FIN.out mm HP.out)
          clear FIN SB SM HS
          obtain ⟨s0, s1, f0, f1⟩ := id hb15.out
          have b9 := B9.out.gr (g5.trans g)
          obtain ⟨s2, s3, f2, f3⟩ := id b9
          obtain ⟨y0, y1, -, -⟩ := (b9.put (x' := p mm) (y' := q mm)).drew
          go_wp2_with fail
          go_region
          all_goals go_wp2_with fail
          clear s0 s1 s2 s3
          refine bodyPost_ret (v := .tuple #[.int .i64 mm, .agg #[.int .i64 (p mm), .int .i64 (q mm)], .int .i64 0]) (by simp [results, Tryz.results19, go_sem, y0, y1]) rfl ⟨mm, HW.out, rfl, ?_⟩
          exact ((((g0.trans g5).trans g).setAt (by omega) _).setAt (by omega) _).drew
end Go.Proofs.YtdlbgelidcfmiaaGreatDoor

namespace Go.Proofs.YtdlbgelidcfmiaaGreatDoor
open Go.RowKit Go.Firn

def RetBE (b : Bool) (err : Int) (w : World) (e : Ending) (w' : World) : Prop := e = .returned (.tuple #[.bool b, .int .i64 err]) ∧ Gr w w'

set_option maxRecDepth 100000 in
theorem Same_ok (a a' : Option Addr) (n c n' c' : Nat) (L T L' T' : Nat → Int) (w : World) (hr : RdM w a n L T) (hr' : RdM w a' n' L' T') (hv : vK n L T = true) (hv' : vK n' L' T' = true) :
    Calls Tryz.prog 18 #[.slice a n c, .slice a' n' c'] w fun e w' => ∃ m, IsMx (apN n L T n' L' T') (apD n L T n' L' T') (WS 0 100000 (px (pairs n L T ++ pairs n' L' T')) (n + n')) m ∧ RetBE (decide (apN n L T n' L' T' m = 0)) 0 w e w' := by
  have CA := Lib.hid (Apart_ok a a' n c n' c' L T L' T' 0 100000 w hr hr' hv hv' (by omega) (by omega) (by omega))
  clear hv hv'
  generalize apN n L T n' L' T' = p at *
  generalize apD n L T n' L' T' = q at *
  generalize WS 0 100000 (px (pairs n L T ++ pairs n' L' T')) (n + n') = W at *
  go_enter Tryz.func18, Tryz.ntmps18
  go_wp2_with fail
  refine CA.out.mono ?_
  rintro e w1 ⟨m, hm, rfl, g⟩
  have HM := Lib.hid hm
  clear hm
  have B7 := (Box2.new (w := w1) (e := 37) (x := p m) (y := q m) rfl).1
  go_wp2_with fail
  go_ret2
  exact ⟨m, HM.out, rfl, g.alloc _⟩

set_option maxRecDepth 100000 in
theorem Same_no (a a' : Option Addr) (n c n' c' : Nat) (L T L' T' : Nat → Int) (w : World) (hn : n ≤ 9223372036854775807) (hn' : n' ≤ 9223372036854775807) (hr : RdM w a n L T) (hr' : RdM w a' n' L' T') (hv : (vK n L T && vK n' L' T') = false) :
    Calls Tryz.prog 18 #[.slice a n c, .slice a' n' c'] w (RetBE false 11 w) := by
  have CA := Lib.hid (show Calls Tryz.prog 19 #[.slice a n c, .slice a' n' c', .int .i64 0, .int .i64 100000] w (RetIRE 0 0 0 11 w) by
    cases h : vK n L T with
    | false => exact Apart_no1 a a' n c n' c' L T L' T' 0 100000 w hn hn' hr hr' h
    | true =>
      rw [h] at hv
      exact Apart_no2 a a' n c n' c' L T L' T' 0 100000 w hn hn' hr hr' h (by simpa using hv))
  clear hv
  go_enter Tryz.func18, Tryz.ntmps18
  go_wp2_with fail
  refine CA.out.mono ?_
  rintro e w1 ⟨rfl, g⟩
  go_wp2_with fail
  go_ret2
  exact ⟨rfl, g.alloc _⟩

/-- The places that the reference looks at. -/
def smX (n : Nat) (L L' : Nat → Int) (i : Nat) : Int := if i = 0 then -1 else if i = 1 then 100001 else if i < n + 2 then L (i - 2) else L' (i - (n + 2))

end Go.Proofs.YtdlbgelidcfmiaaGreatDoor

namespace Go.Proofs.YtdlbgelidcfmiaaGreatDoor
open Go.RowKit Go.Firn

/-- Where both go straight, the difference goes straight too. -/
theorem straight3 {n n' : Nat} {L T L' T' : Nat → Int} (hv : vK n L T = true) (hv' : vK n' L' T' = true) {x : Int} (hs : Smooth n L x) (hs' : Smooth n' L' x) :
    ∃ m0 m1 m2 dd : Int, 0 < dd ∧ m0 + m2 = 2 * m1 ∧ apN n L T n' L' T' (x - 1) * dd = (m0.natAbs : Int) * apD n L T n' L' T' (x - 1) ∧ apN n L T n' L' T' x * dd = (m1.natAbs : Int) * apD n L T n' L' T' x ∧ apN n L T n' L' T' (x + 1) * dd = (m2.natAbs : Int) * apD n L T n' L' T' (x + 1) := by
  have ei := hs.ix hv
  have ei' := hs'.ix hv'
  have d1 := (aD_bd hv (pA L (x - 1))).1
  have d1' := (aD_bd hv' (pA L' (x - 1))).1
  have s := same_time x hv
  have s' := same_time x hv'
  rw [ei] at s
  rw [ei'] at s'
  have A0 := AN_line (y := x - 1) hv d1 rfl
  have A0' := AN_line (y := x - 1) hv' d1' rfl
  have A1 := AN_line (y := x) hv d1 (by rw [ei])
  have A1' := AN_line (y := x) hv' d1' (by rw [ei'])
  have A2 := AN_line (y := x + 1) hv d1 s
  have A2' := AN_line (y := x + 1) hv' d1' s'
  have B0 := ap_line hv hv' d1 d1' A0 A0'
  have B1 := ap_line hv hv' d1 d1' A1 A1'
  have B2 := ap_line hv hv' d1 d1' A2 A2'
  have lin : (aN L T (ix (pA L (x - 1)) n) (x - 1) * aD L' (ix (pA L' (x - 1)) n') - aN L' T' (ix (pA L' (x - 1)) n') (x - 1) * aD L (ix (pA L (x - 1)) n)) + (aN L T (ix (pA L (x - 1)) n) (x + 1) * aD L' (ix (pA L' (x - 1)) n') - aN L' T' (ix (pA L' (x - 1)) n') (x + 1) * aD L (ix (pA L (x - 1)) n)) = 2 * (aN L T (ix (pA L (x - 1)) n) x * aD L' (ix (pA L' (x - 1)) n') - aN L' T' (ix (pA L' (x - 1)) n') x * aD L (ix (pA L (x - 1)) n)) := by
    generalize ix (pA L (x - 1)) n = i
    generalize ix (pA L' (x - 1)) n' = i'
    have key : ∀ (L T : Nat → Int) (i : Nat) (d : Int), aN L T i (x - 1) * d + aN L T i (x + 1) * d = 2 * (aN L T i x * d) := fun L T i d => by
      have : aN L T i (x - 1) + aN L T i (x + 1) = 2 * aN L T i x := by
        unfold aN
        rw [show x - 1 - L i = (x - L i) - 1 by omega, show x + 1 - L i = (x - L i) + 1 by omega, Int.sub_mul, Int.add_mul]
        omega
      rw [← Int.add_mul, this, Int.mul_assoc]
    have k1 := key L T i (aD L' i')
    have k2 := key L' T' i' (aD L i)
    omega
  exact ⟨_, _, _, _, Int.mul_pos d1 d1', lin, B0, B1, B2⟩

theorem abs_zero_of {p dd q : Int} {m : Int} (hq : 0 < q) (h : p * dd = (m.natAbs : Int) * q) (hp : p = 0) : m = 0 := by
  rw [hp, Int.zero_mul] at h
  rcases Int.mul_eq_zero.1 h.symm with e | e <;> omega
theorem zero_of_abs {p dd q : Int} {m : Int} (hd : 0 < dd) (h : p * dd = (m.natAbs : Int) * q) (hm : m = 0) : p = 0 := by
  subst hm
  rw [show ((0 : Int).natAbs : Int) = 0 from rfl, Int.zero_mul] at h
  rcases Int.mul_eq_zero.1 h with e | e <;> omega
theorem zero_left {n n' : Nat} {L T L' T' : Nat → Int} (hv : vK n L T = true) (hv' : vK n' L' T' = true) {x : Int} (hs : Smooth n L x) (hs' : Smooth n' L' x)
    (h1 : apN n L T n' L' T' x = 0) (h2 : apN n L T n' L' T' (x + 1) = 0) : apN n L T n' L' T' (x - 1) = 0 := by
  obtain ⟨m0, m1, m2, dd, hd, e, B0, B1, B2⟩ := straight3 hv hv' hs hs'
  have z1 := abs_zero_of (apD_pos hv hv' x) B1 h1
  have z2 := abs_zero_of (apD_pos hv hv' (x + 1)) B2 h2
  exact zero_of_abs hd B0 (by omega)
theorem zero_right {n n' : Nat} {L T L' T' : Nat → Int} (hv : vK n L T = true) (hv' : vK n' L' T' = true) {x : Int} (hs : Smooth n L x) (hs' : Smooth n' L' x)
    (h1 : apN n L T n' L' T' x = 0) (h0 : apN n L T n' L' T' (x - 1) = 0) : apN n L T n' L' T' (x + 1) = 0 := by
  obtain ⟨m0, m1, m2, dd, hd, e, B0, B1, B2⟩ := straight3 hv hv' hs hs'
  have z1 := abs_zero_of (apD_pos hv hv' x) B1 h1
  have z0 := abs_zero_of (apD_pos hv hv' (x - 1)) B0 h0
  exact zero_of_abs hd B2 (by omega)

theorem px_app {n n' i : Nat} (L T L' T' : Nat → Int) (h : i < n) : px (pairs n L T ++ pairs n' L' T') i = L i := by
  unfold px
  rw [List.getD_eq_getElem?_getD, List.getElem?_append_left (by rw [pairs_length]; exact h), ← List.getD_eq_getElem?_getD]
  exact px_pairs L T h
theorem px_app' {n n' i : Nat} (L T L' T' : Nat → Int) (h : i < n') : px (pairs n L T ++ pairs n' L' T') (n + i) = L' i := by
  unfold px
  rw [List.getD_eq_getElem?_getD, List.getElem?_append_right (by rw [pairs_length]; omega), pairs_length, Nat.add_sub_cancel_left, ← List.getD_eq_getElem?_getD]
  exact px_pairs L' T' h

/-- A place that is no end and no mark is smooth. -/
theorem smooth_or {n n' : Nat} {L T L' T' : Nat → Int} {F G a : Int} (hn : 2 ≤ n) (hn' : 2 ≤ n') (h1 : F ≤ a) (h2 : a ≤ G) : WS F G (px (pairs n L T ++ pairs n' L' T')) (n + n') a ∨ (Smooth n L a ∧ Smooth n' L' a) := by
  by_cases hs : Smooth n L a
  · by_cases hs' : Smooth n' L' a
    · exact .inr ⟨hs, hs'⟩
    · refine .inl (.inr (.inr ?_))
      have ⟨j, hj⟩ := Classical.not_forall.1 hs'
      obtain ⟨j1, hj⟩ := Classical.not_imp.1 hj
      obtain ⟨j2, hj⟩ := Classical.not_imp.1 hj
      have e : L' j = a := Classical.not_not.1 hj
      have := px_app' (n := n) L T L' T' (show j < n' by omega)
      exact ⟨n + j, by omega, by rw [this, e]; exact ⟨h1, h2⟩, by rw [this, e]⟩
  · refine .inl (.inr (.inr ?_))
    have ⟨j, hj⟩ := Classical.not_forall.1 hs
    obtain ⟨j1, hj⟩ := Classical.not_imp.1 hj
    obtain ⟨j2, hj⟩ := Classical.not_imp.1 hj
    have e : L j = a := Classical.not_not.1 hj
    have := px_app (n' := n') L T L' T' (show j < n by omega)
    exact ⟨j, by omega, by rw [this, e]; exact ⟨h1, h2⟩, by rw [this, e]⟩

/-- The first greatest one between the ends lies at an end or a mark. -/
theorem mx_ws {n n' : Nat} {L T L' T' : Nat → Int} (hv : vK n L T = true) (hv' : vK n' L' T' = true) {F G a : Int} (h : RfM (apN n L T n' L' T') (apD n L T n' L' T') F (G + 1) a) : IsMx (apN n L T n' L' T') (apD n L T n' L' T') (WS F G (px (pairs n L T ++ pairs n' L' T')) (n + n')) a := by
  have hn := (vK_true.1 hv).1
  have hn' := (vK_true.1 hv').1
  obtain ⟨⟨ha1, ha2⟩, hm1, hm2⟩ := id h
  refine IsMx.sub h ?_ ?_
  · rintro y (rfl | rfl | ⟨i, _, a, rfl⟩)
    · exact ⟨by omega, by omega⟩
    · exact ⟨by omega, by omega⟩
    · exact ⟨a.1, by omega⟩
  · rcases smooth_or (T := T) (T' := T') hn hn' ha1 (show a ≤ G by omega) with h | ⟨hs, hs'⟩
    · exact h
    · by_cases e1 : a = F
      · exact .inl e1
      by_cases e2 : a = G
      · exact .inr (.inl e2)
      exact (no_peak hv hv' hs hs' (hm2 (a - 1) ⟨by omega, by omega⟩ (by omega)) (hm1 (a + 1) ⟨by omega, by omega⟩)).elim
theorem place_eq {n n' : Nat} {L T L' T' : Nat → Int} (hv : vK n L T = true) (hv' : vK n' L' T' = true) {F G a m : Int} (h : RfM (apN n L T n' L' T') (apD n L T n' L' T') F (G + 1) a)
    (k : IsMx (apN n L T n' L' T') (apD n L T n' L' T') (WS F G (px (pairs n L T ++ pairs n' L' T')) (n + n')) m) : m = a := k.unique (mx_ws hv hv' h)

/-- A greatest one of 0: all are 0. -/
theorem all_zero {p q : Int → Int} (hp : ∀ y, 0 ≤ p y) (hq : ∀ y, 0 < q y) {S : Int → Prop} {a : Int} (h : IsMx p q S a) (h0 : p a = 0) : ∀ y, S y → p y = 0 := fun y hy => by
  have := h.2.1 y hy
  unfold ltR at this
  rw [h0, Int.zero_mul] at this
  have hy := hp y
  rcases Int.lt_or_eq_of_le hy with e | e
  · exact absurd (Int.mul_pos e (hq a)) this
  · exact e.symm

theorem eqP_iff {n n' : Nat} {L T L' T' : Nat → Int} (hv : vK n L T = true) (hv' : vK n' L' T' = true) (x : Int) : (AN n L T x = AN n' L' T' x ∧ AD n L T x = AD n' L' T' x) ↔ apN n L T n' L' T' x = 0 := by
  have b := AD_bd x hv
  have b' := AD_bd x hv'
  have e := apE_pos hv hv' x
  have r := red_mul (max (apM n L T n' L' T' x) (-apM n L T n' L' T' x)) (apE n L T n' L' T' x)
  have d := apD_pos hv hv' x
  have g : ∀ M : Int, apM n L T n' L' T' x = M → (M = 0 ↔ apN n L T n' L' T' x = 0) := by
    intro M hM
    rw [hM] at r
    unfold apD at d
    unfold apN
    rw [hM] at d ⊢
    constructor
    · rintro rfl
      rw [show max (0 : Int) (-0) = 0 from rfl, Int.zero_mul] at r
      rcases Int.mul_eq_zero.1 r with h | h
      · exact h
      · omega
    · intro h
      rw [h, Int.zero_mul] at r
      rcases Int.mul_eq_zero.1 r.symm with h | h <;> omega
  rw [← g _ rfl]
  unfold apM
  constructor
  · rintro ⟨h1, h2⟩
    rw [h1, h2]
    omega
  · intro h
    exact cop_eq (red_cop (aD_bd hv _).1) (red_cop (aD_bd hv' _).1) (show 0 < AD n L T x by omega) (show 0 < AD n' L' T' x by omega) (show AN n L T x * AD n' L' T' x = AN n' L' T' x * AD n L T x by omega)

theorem same_iff {n n' : Nat} {L T L' T' : Nat → Int} (hv : vK n L T = true) (hv' : vK n' L' T' = true) {m : Int} (h : IsMx (apN n L T n' L' T') (apD n L T n' L' T') (WS 0 100000 (px (pairs n L T ++ pairs n' L' T')) (n + n')) m) :
    apN n L T n' L' T' m = 0 ↔ ∀ i, i < n + n' + 2 → AN n L T (smX n L L' i) = AN n' L' T' (smX n L L' i) ∧ AD n L T (smX n L L' i) = AD n' L' T' (smX n L L' i) := by
  obtain ⟨hn, hn30, hB, hs⟩ := vK_true.1 hv
  obtain ⟨hn', hn30', hB', hs'⟩ := vK_true.1 hv'
  have hq := fun y => apD_pos hv hv' y
  have hp := fun y => apN_nonneg (n := n) (L := L) (T := T) (n' := n') (L' := L') (T' := T') y
  have inside : ∀ {n : Nat} {L T : Nat → Int}, vK n L T = true → (∀ j, 0 < j → j ≤ n - 2 → 0 < L j ∧ L j < 100000) := fun hv j h1 h2 => by
    obtain ⟨hn, _, hB, hs⟩ := vK_true.1 hv
    have a := hs (j - 1) (by omega)
    have b := hs j (by omega)
    have c := hB (j - 1) (by omega)
    have d := hB (j + 1) (by omega)
    rw [show j - 1 + 1 = j by omega] at a
    omega
  constructor
  · intro h0
    obtain ⟨a, ha⟩ := IsMx.exists hq 0 100000
    rw [show (0 : Int) + ((100000 : Nat) : Int) + 1 = 100000 + 1 by rfl] at ha
    obtain rfl := place_eq hv hv' ha h
    have Z := all_zero hp hq ha h0
    have zl := zero_left hv hv' (x := 0) (fun j h1 h2 e => by have := inside hv j h1 h2; omega) (fun j h1 h2 e => by have := inside hv' j h1 h2; omega) (Z 0 ⟨by omega, by omega⟩) (Z 1 ⟨by omega, by omega⟩)
    have zr := zero_right hv hv' (x := 100000) (fun j h1 h2 e => by have := inside hv j h1 h2; omega) (fun j h1 h2 e => by have := inside hv' j h1 h2; omega) (Z 100000 ⟨by omega, by omega⟩) (Z (100000 - 1) ⟨by omega, by omega⟩)
    intro i hi
    rw [eqP_iff hv hv']
    unfold smX
    split
    · exact zl
    · split
      · exact zr
      · split
        · have := hB (i - 2) (by omega); exact Z _ ⟨by omega, by omega⟩
        · have := hB' (i - (n + 2)) (by omega); exact Z _ ⟨by omega, by omega⟩
  · intro he
    have hz : ∀ i, i < n + n' + 2 → apN n L T n' L' T' (smX n L L' i) = 0 := fun i hi => (eqP_iff hv hv' _).1 (he i hi)
    obtain ⟨a, ha⟩ := IsMx.exists hq (-1) 100002
    rw [show (-1 : Int) + ((100002 : Nat) : Int) + 1 = 100001 + 1 by rfl] at ha
    have hw := (mx_ws hv hv' ha).1
    have h0 : apN n L T n' L' T' a = 0 := by
      rcases hw with rfl | rfl | ⟨i, hi, _, e⟩
      · exact hz 0 (by omega)
      · exact hz 1 (by omega)
      · rcases Nat.lt_or_ge i n with hl | hl
        · rw [px_app L T L' T' hl] at e
          have := hz (i + 2) (by omega)
          unfold smX at this
          rw [if_neg (by omega), if_neg (by omega), if_pos (by omega), Nat.add_sub_cancel, e] at this
          exact this
        · obtain ⟨j, rfl⟩ : ∃ j, i = n + j := ⟨i - n, by omega⟩
          rw [px_app' L T L' T' (by omega)] at e
          have := hz (n + 2 + j) (by omega)
          unfold smX at this
          rw [if_neg (by omega), if_neg (by omega), if_neg (by omega), Nat.add_sub_cancel_left, e] at this
          exact this
    refine all_zero hp hq ha h0 m ?_
    rcases h.1 with rfl | rfl | ⟨i, _, a, rfl⟩
    · exact ⟨by omega, by omega⟩
    · exact ⟨by omega, by omega⟩
    · exact ⟨by omega, by omega⟩

end Go.Proofs.YtdlbgelidcfmiaaGreatDoor

namespace Go.Proofs.YtdlbgelidcfmiaaGreatDoor
open Go.RowKit Go.Firn

end Go.Proofs.YtdlbgelidcfmiaaGreatDoor

namespace Go.Firn
theorem Box2.put1 {w : World} {b : Nat} {x y y' : Int} (h : Box2 w b x y) : Box2 (w.setCell ⟨b, 1, none⟩ (.int .i64 y')) b x y' := by
  obtain ⟨h0, h1, h2, h3⟩ := h
  refine ⟨?_, World.cell?_setCell_same _ _ _ h1, by simpa using h2, by simpa using h3⟩
  rw [World.cell?_setCell_other _ _ _ _ (by simp)]
  exact h0
end Go.Firn
namespace Go.Proofs.YtdlbgelidcfmiaaGreatDoor
open Go.RowKit Go.Firn

/-- Both ways round it is the same. -/
theorem ap_swap (n : Nat) (L T : Nat → Int) (n' : Nat) (L' T' : Nat → Int) : apN n' L' T' n L T = apN n L T n' L' T' ∧ apD n' L' T' n L T = apD n L T n' L' T' := by
  have e (x : Int) : max (apM n' L' T' n L T x) (-apM n' L' T' n L T x) = max (apM n L T n' L' T' x) (-apM n L T n' L' T' x) := by
    have : apM n' L' T' n L T x = -apM n L T n' L' T' x := by unfold apM; omega
    omega
  have e2 (x : Int) : apE n' L' T' n L T x = apE n L T n' L' T' x := by unfold apE; exact Int.mul_comm _ _
  constructor
  · funext x; unfold apN; rw [e, e2]
  · funext x; unfold apD; rw [e, e2]

/-- What TickFar calls, of two valid clocks. -/
theorem far_facts {n n' : Nat} {L T L' T' : Nat → Int} (hv : vK n L T = true) (hv' : vK n' L' T' = true) (a a' : Option Addr) (c c' : Nat) {x y : Int} (hx : 0 ≤ x) (hxy : x ≤ y) (hy : y ≤ 100000) :
    ∃ (m p q : Int) (b : Bool), (x ≤ m ∧ m ≤ y) ∧ apN n L T n' L' T' m = p ∧ apD n L T n' L' T' m = q ∧ (b = true → p = 0 ∧ m = x) ∧ (∀ z, x ≤ z → z ≤ y → ¬ p * apD n L T n' L' T' z < apN n L T n' L' T' z * q) ∧
      (∀ w, RdM w a n L T → RdM w a' n' L' T' → Calls Tryz.prog 19 #[.slice a n c, .slice a' n' c', .int .i64 x, .int .i64 y] w (RetIRE m p q 0 w)) ∧
      (∀ w, RdM w a n L T → RdM w a' n' L' T' → Calls Tryz.prog 19 #[.slice a' n' c', .slice a n c, .int .i64 x, .int .i64 y] w (RetIRE m p q 0 w)) ∧
      (∀ w, RdM w a n L T → RdM w a' n' L' T' → Calls Tryz.prog 18 #[.slice a n c, .slice a' n' c'] w (RetBE b 0 w)) := by
  have hq := fun y => apD_pos hv hv' y
  have hp := fun y => apN_nonneg (n := n) (L := L) (T := T) (n' := n') (L' := L') (T' := T') y
  obtain ⟨m, hm⟩ := IsMx.exists hq x (y - x).toNat
  rw [show x + ((y - x).toNat : Int) + 1 = y + 1 by omega] at hm
  obtain ⟨m0, hm0⟩ := IsMx.exists hq 0 100000
  rw [show (0 : Int) + ((100000 : Nat) : Int) + 1 = 100000 + 1 by rfl] at hm0
  refine ⟨m, _, _, decide (apN n L T n' L' T' m0 = 0), ⟨hm.1.1, by have := hm.1.2; omega⟩, rfl, rfl, fun hb => ?_, fun z h1 h2 => hm.2.1 z ⟨h1, by omega⟩, fun w h h' => ?_, fun w h h' => ?_, fun w h h' => ?_⟩
  · have h0 : apN n L T n' L' T' m0 = 0 := by simpa using hb
    have Z := all_zero hp hq hm0 h0
    have hm1 := hm.1
    have zx := Z x ⟨hx, by omega⟩
    have zm := Z m ⟨by omega, by omega⟩
    refine ⟨zm, ?_⟩
    rcases Int.lt_or_eq_of_le hm1.1 with h | h
    · have := hm.2.2 x ⟨by omega, by omega⟩ h
      unfold ltR at this
      rw [zx, zm] at this
      omega
    · exact h.symm
  · refine (Apart_ok a a' n c n' c' L T L' T' x y w h h' hv hv' ⟨hx, by omega⟩ ⟨by omega, hy⟩ hxy).mono ?_
    rintro e w' ⟨k, hk, hret⟩
    obtain rfl := place_eq hv hv' hm hk
    exact hret
  · refine (Apart_ok a' a n' c' n c L' T' L T x y w h' h hv' hv ⟨hx, by omega⟩ ⟨by omega, hy⟩ hxy).mono ?_
    rintro e w' ⟨k, hk, hret⟩
    obtain rfl := place_eq hv' hv (a := m) (by rw [(ap_swap n L T n' L' T').1, (ap_swap n L T n' L' T').2]; exact hm) hk
    rw [(ap_swap n L T n' L' T').1, (ap_swap n L T n' L' T').2] at hret
    exact hret
  · refine (Same_ok a a' n c n' c' L T L' T' w h h' hv hv').mono ?_
    rintro e w' ⟨k, hk, hret⟩
    obtain rfl := place_eq hv hv' hm0 hk
    exact hret

end Go.Proofs.YtdlbgelidcfmiaaGreatDoor
