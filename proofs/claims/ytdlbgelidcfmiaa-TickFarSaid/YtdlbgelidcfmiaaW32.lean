/- Contracts of chapter 1: where, and how much, two clocks differ most, by the program. -/
import Derived.Test.YtdlbgelidcfmiaaW31
namespace Go.Firn
open Go.RowKit
theorem cell_new1' (w : World) (v : Value) (e : TypeId) (b : Nat) (hb : w.heap.size = b) : (w.alloc (.cells #[v] e)).cell? ⟨b, 0, none⟩ = some v := by subst hb; exact cell_new1 w v e
theorem OwnI.lit2 {w0 w : World} (g : Gr w0 w) (F G : Int) (f : Nat → Int) (h0 : f 0 = F) (h1 : f 1 = G) : OwnI w0 3 (w.alloc (.cells #[.int .i64 F, .int .i64 G] 3)) (.slice (some ⟨w.heap.size, 0, none⟩) 2 2) 2 f := by
  have gg : Gr w0 (w.alloc (.cells #[.int .i64 F, .int .i64 G] 3)) := g.alloc _
  subst h0
  subst h1
  exact ⟨⟨rfl, .inr ⟨w.heap.size, _, _, rfl, g.size, heap_alloc_new w _, Nat.le_refl _, by unfold maxLen; omega, rfl, rfl⟩⟩, gg⟩
/-- The row's block is of the row's type. -/
theorem own_type {w0 w w' : World} {e e' : TypeId} {size n : Nat} {v : Value} {xs : List Value} {cur' : Array Value} {b : Nat} (h : w.ownsRow w0.heap.size e size v n xs) (g : Gr w w') (hb : some b = v.ownBlock) (hc : w'.heap[b]? = some (.cells cur' e')) (hne : e ≠ e' := by decide) : False := by
  obtain ⟨_, hv⟩ := h
  rcases hv with ⟨rfl, _⟩ | ⟨b', cap, cur, rfl, _, hg, _⟩
  · cases hb
  · obtain rfl : b = b' := by simpa [Value.ownBlock] using hb
    rw [Below.block g b (Array.getElem?_eq_some_iff.1 hg).1, hg] at hc
    cases hc
    exact hne rfl
end Go.Firn
namespace Go.Proofs.Ytdlbgelidcfmiaa
open Go.RowKit Go.Firn

/-- The ends and the first k marks between them. -/
def wl (F G : Int) (f : Nat → Int) : Nat → List Int
  | 0 => [F, G]
  | k + 1 => if btw F (f k) G = true then wl F G f k ++ [f k] else wl F G f k
theorem wl_yes {F G : Int} {f : Nat → Int} {k : Nat} (h : btw F (f k) G = true) : wl F G f (k + 1) = wl F G f k ++ [f k] := by rw [wl, if_pos h]
theorem wl_no {F G : Int} {f : Nat → Int} {k : Nat} (h : btw F (f k) G = false) : wl F G f (k + 1) = wl F G f k := by rw [wl, if_neg (by rw [h]; decide)]
theorem wl_len (F G : Int) (f : Nat → Int) : ∀ k, 2 ≤ (wl F G f k).length ∧ (wl F G f k).length ≤ k + 2
  | 0 => by simp [wl]
  | k + 1 => by
    have := wl_len F G f k
    cases h : btw F (f k) G
    · rw [wl_no h]; omega
    · rw [wl_yes h, List.length_append]; simp; omega
theorem wl_prefix (F G : Int) (f : Nat → Int) (k : Nat) : ∀ d, wl F G f k <+: wl F G f (k + d)
  | 0 => List.prefix_refl _
  | d + 1 => by
    refine (wl_prefix F G f k d).trans ?_
    rw [← Nat.add_assoc]
    cases h : btw F (f (k + d)) G
    · rw [wl_no h]; exact List.prefix_refl _
    · rw [wl_yes h]; exact List.prefix_append _ _
theorem wl_at {F G : Int} {f : Nat → Int} {k N : Nat} (hk : k < N) (h : btw F (f k) G = true) : (wl F G f N).getD (wl F G f k).length 0 = f k := by
  obtain ⟨t, e⟩ := wl_prefix F G f (k + 1) (N - (k + 1))
  rw [show k + 1 + (N - (k + 1)) = N by omega, wl_yes h] at e
  rw [← e]
  simp
theorem wl_01 (F G : Int) (f : Nat → Int) (N : Nat) : (wl F G f N).getD 0 0 = F ∧ (wl F G f N).getD 1 0 = G := by
  obtain ⟨t, e⟩ := wl_prefix F G f 0 N
  rw [Nat.zero_add] at e
  rw [← e]
  exact ⟨rfl, rfl⟩
theorem wl_mem (F G : Int) (f : Nat → Int) (y : Int) : ∀ k, y ∈ wl F G f k ↔ y = F ∨ y = G ∨ ∃ i, i < k ∧ (F ≤ f i ∧ f i ≤ G) ∧ f i = y
  | 0 => by simp [wl]
  | k + 1 => by
    have ih := wl_mem F G f y k
    cases h : btw F (f k) G
    · rw [wl_no h, ih]
      constructor
      · rintro (a | a | ⟨i, hi, a⟩)
        · exact .inl a
        · exact .inr (.inl a)
        · exact .inr (.inr ⟨i, by omega, a⟩)
      · rintro (a | a | ⟨i, hi, a⟩)
        · exact .inl a
        · exact .inr (.inl a)
        · rcases Nat.lt_or_eq_of_le (Nat.le_of_lt_succ hi) with hi | rfl
          · exact .inr (.inr ⟨i, hi, a⟩)
          · exact absurd a.1 (btw_false.1 h)
    · rw [wl_yes h, List.mem_append, ih, List.mem_singleton]
      constructor
      · rintro ((a | a | ⟨i, hi, a⟩) | a)
        · exact .inl a
        · exact .inr (.inl a)
        · exact .inr (.inr ⟨i, by omega, a⟩)
        · exact .inr (.inr ⟨k, by omega, btw_true.1 h, a.symm⟩)
      · rintro (a | a | ⟨i, hi, a⟩)
        · exact .inl (.inl a)
        · exact .inl (.inr (.inl a))
        · rcases Nat.lt_or_eq_of_le (Nat.le_of_lt_succ hi) with hi | rfl
          · exact .inl (.inr (.inr ⟨i, hi, a⟩))
          · exact .inr a.2.symm

theorem PrM.bd {p q : Int → Int} {F G : Int} {S : Nat → Int} {k : Nat} {a : Int} (h : PrM p q F S k a) (hFG : F ≤ G) (hS : ∀ i, i < k → F ≤ S i ∧ S i ≤ G) : F ≤ a ∧ a ≤ G := by
  rcases h.1 with rfl | ⟨j, hj, rfl⟩
  · omega
  · exact hS j hj

/-- The places that the program looks at. -/
def WS (F G : Int) (f : Nat → Int) (N : Nat) (y : Int) : Prop := y = F ∨ y = G ∨ ∃ i, i < N ∧ (F ≤ f i ∧ f i ≤ G) ∧ f i = y
def whX (F G : Int) (f : Nat → Int) (N i : Nat) : Int := (wl F G f N).getD i 0
def RetPf (p q : Int → Int) (W : Int → Prop) (w : World) (e : Ending) (w' : World) : Prop := ∃ m, IsMx p q W m ∧ RetIRE m (p m) (q m) 0 w e w'

theorem whX_in {F G : Int} {f : Nat → Int} {N i : Nat} (h : i < (wl F G f N).length) : WS F G f N (whX F G f N i) := by
  unfold WS whX
  rw [← wl_mem, List.getD_eq_getElem?_getD, List.getElem?_eq_getElem h]
  exact List.getElem_mem h
theorem whX_of {F G : Int} {f : Nat → Int} {N : Nat} {y : Int} (h : WS F G f N y) : ∃ i, i < (wl F G f N).length ∧ whX F G f N i = y := by
  unfold WS at h
  rw [← wl_mem] at h
  obtain ⟨i, hi, e⟩ := List.getElem_of_mem h
  refine ⟨i, hi, ?_⟩
  unfold whX
  rw [List.getD_eq_getElem?_getD, List.getElem?_eq_getElem hi]
  exact e
theorem srX_fin {p q : Int → Int} {F G : Int} {f : Nat → Int} {N : Nat} {a : Int} (h : PrM p q F (srF (whX F G f N) (wl F G f N).length) (wl F G f N).length a) : IsMx p q (WS F G f N) a := by
  refine h.fin (.inl rfl) (fun y hy => ?_) fun i hi => ?_
  · obtain ⟨k, hk, e⟩ := whX_of hy
    obtain ⟨i, hi, e2⟩ := mem_srF (X := whX F G f N) hk
    exact .inr ⟨i, hi, e2.trans e⟩
  · obtain ⟨k, hk, e⟩ := srF_mem (X := whX F G f N) hi
    rw [e]
    exact whX_in hk
theorem srX_bd {F G : Int} (h : F ≤ G) {f : Nat → Int} {N i : Nat} (hi : i < (wl F G f N).length) : F ≤ srF (whX F G f N) (wl F G f N).length i ∧ srF (whX F G f N) (wl F G f N).length i ≤ G := by
  obtain ⟨k, hk, e⟩ := srF_mem (X := whX F G f N) hi
  rw [e]
  rcases whX_in hk with a | a | ⟨j, _, a, b⟩
  · omega
  · omega
  · omega

set_option maxRecDepth 100000 in
set_option maxHeartbeats 4000000 in
theorem Apart_ok (a a' : Option Addr) (n c n' c' : Nat) (L T L' T' : Nat → Int) (F G : Int) (w : World) (hr : RdM w a n L T) (hr' : RdM w a' n' L' T') (hv : vK n L T = true) (hv' : vK n' L' T' = true)
    (hF : 0 ≤ F ∧ F ≤ 100000) (hG : 0 ≤ G ∧ G ≤ 100000) (hFG : F ≤ G) :
    Calls Try.prog 50 #[.slice a n c, .slice a' n' c', .int .i64 F, .int .i64 G] w (RetPf (apN n L T n' L' T') (apD n L T n' L' T') (WS F G (px (pairs n L T ++ pairs n' L' T')) (n + n')) w) := by
  obtain ⟨hn2, hn30, -, -⟩ := vK_true.1 hv
  obtain ⟨hn2', hn30', -, -⟩ := vK_true.1 hv'
  have Q := Lib.hid (fun y => apD_pos hv hv' y)
  have BD := Lib.hid (fun (x : Int) (hx : -200000 ≤ x ∧ x ≤ 200000) => ap_bd hv hv' hx)
  have RA := Lib.hid (fun (x : Int) (hx : -200000 ≤ x ∧ x ≤ 200000) w1 h h' => apart_any a a' n c n' c' L T L' T' x w1 (by omega) (by omega) h h' hv hv' hx)
  have V1 := Lib.hid (fun w1 h => show Calls Try.prog 33 #[.slice a n c] w1 (RetB true w1) by have := ValidClock_any a n c L T w1 (by omega) h; rwa [hv] at this)
  have V2 := Lib.hid (fun w1 h => show Calls Try.prog 33 #[.slice a' n' c'] w1 (RetB true w1) by have := ValidClock_any a' n' c' L' T' w1 (by omega) h; rwa [hv'] at this)
  have HR := Lib.hid hr
  have HR' := Lib.hid hr'
  have T1 := Lib.hid (fun w1 => (isLocal_v (n := F) (btw_true.2 hF) w1).mono fun _ _ h => (⟨h.1, h.2.symm⟩ : _ ∧ w1 = _))
  have T2 := Lib.hid (fun w1 => (isLocal_v (n := G) (btw_true.2 hG) w1).mono fun _ _ h => (⟨h.1, h.2.symm⟩ : _ ∧ w1 = _))
  have CC := Lib.hid (fun bb w1 h h' h0 h1 => by
    obtain ⟨b, o, rfl, _⟩ := hr.at (k := 0) (by omega)
    obtain ⟨b', o', rfl, _⟩ := hr'.at (k := 0) (by omega)
    exact Concat_any b b' o o' bb n c n' c' L T L' T' w1 (by omega) (by omega) (by omega) (by omega) h h' h0 h1 : ∀ (bb : Nat) (w1 : World) (_ : RdM w1 a n L T) (_ : RdM w1 a' n' L' T') (_ : w1.cell? ⟨bb, 0, none⟩ = some (.slice a n c)) (_ : w1.cell? ⟨bb, 1, none⟩ = some (.slice a' n' c')), Calls Try.prog 81 #[.slice (some ⟨bb, 0, none⟩) 2 2] w1 (RetMB (pairs n L T ++ pairs n' L' T') 64 w1))
  have HL := Lib.hid (show (pairs n L T ++ pairs n' L' T').length = n + n' by rw [List.length_append, pairs_length, pairs_length])
  clear hv hv' hr hr'
  generalize apN n L T n' L' T' = p at *
  generalize apD n L T n' L' T' = q at *
  generalize pairs n L T ++ pairs n' L' T' = ms at *
  have g0 : Gr w (w.alloc (.cells #[.int .i64 0, .int .i64 0] 37)) := (Gr.refl w).alloc _
  have B9 : Hid (Box2 (w.alloc (.cells #[.int .i64 0, .int .i64 0] 37)) w.heap.size 0 0) := Lib.hid (Box2.new rfl)
  have HZ := Lib.hid (show (w.alloc (.cells #[.int .i64 0, .int .i64 0] 37)).heap.size = w.heap.size + 1 by simp)
  have d1 : decide (G < F) = false := by simp; omega
  go_enter Try.func50, Try.ntmps50
  generalize hw0 : w.alloc (.cells #[.int .i64 0, .int .i64 0] 37) = w0 at g0 B9 HZ
  have gz : Gr w0 w0 := Gr.refl w0
  go_wp2_with fail
  clear hw0
  refine (V1.out _ (HR.out.gr g0)).mono ?_
  rintro e w1 ⟨rfl, g2⟩
  replace gz := gz.trans g2
  clear g2
  go_wp2_with fail
  refine (V2.out _ (HR'.out.gr (g0.trans gz))).mono ?_
  rintro e w2 ⟨rfl, g2⟩
  replace gz := gz.trans g2
  clear g2
  have OW : Hid (OwnI w0 3 (w2.alloc (.cells #[.int .i64 F, .int .i64 G] 3)) (.slice (some ⟨w2.heap.size, 0, none⟩) 2 2) 2 (whX F G (px ms) (n + n'))) := Lib.hid (OwnI.lit2 gz F G _ (wl_01 F G (px ms) (n + n')).1 (wl_01 F G (px ms) (n + n')).2)
  go_wp2_with (first | (go_at_call 80; refine (T1.out _).mono ?_; rintro e w1 ⟨rfl, rfl⟩) | (go_at_call 80; refine (T2.out _).mono ?_; rintro e w1 ⟨rfl, rfl⟩))
  have ga := ((Gr.refl w2).alloc (.cells #[.int .i64 F, .int .i64 G] 3)).alloc (.cells #[.slice a n c, .slice a' n' c'] 35)
  have gb := Gr.refl ((w2.alloc (.cells #[.int .i64 F, .int .i64 G] 3)).alloc (.cells #[.slice a n c, .slice a' n' c'] 35))
  replace gz := gz.trans ga
  replace OW := Lib.hid (OW.out.alloc (.cells #[.slice a n c, .slice a' n' c'] 35))
  have c0 := (gb.fresh' (b := w2.heap.size + 1) (j := 0) (by simp) rfl).1
  have c1 := (gb.fresh' (b := w2.heap.size + 1) (j := 1) (by simp) rfl).1
  refine (CC.out _ _ (HR.out.gr (g0.trans gz)) (HR'.out.gr (g0.trans gz)) c0 c1).mono ?_
  clear c0 c1 ga gb
  rintro e w3 ⟨b3, c3, cur3, rfl, hb3, hr3, g2⟩
  replace OW := Lib.hid (OW.out.gr g2)
  rw [HL.out] at hr3 ⊢
  obtain ⟨b3', o3, e3, hc⟩ := hr3.at (k := 0) (by omega)
  cases e3
  have HC := Lib.hid (fun (wr : World) (hb : wr.heap[b3]? = some (.cells cur3 64)) k (hk : k < n + n') => by
    have e : wr.heap[b3]? = w3.heap[b3]? := by rw [hb, hb3]
    rw [World.cell?_of_block (a := ⟨b3, 0 + k * 2, none⟩) e, World.cell?_of_block (a := ⟨b3, 0 + k * 2 + 1, none⟩) e]
    exact hc k hk : ∀ (wr : World) (_ : wr.heap[b3]? = some (.cells cur3 64)) (k : Nat) (_ : k < n + n'), wr.cell? ⟨b3, 0 + k * 2, none⟩ = some (.int .i64 (px ms k)) ∧ wr.cell? ⟨b3, 0 + k * 2 + 1, none⟩ = some (.int .i64 (py ms k)))
  clear hc hr3 g2 gz
  have HB3 := Lib.hid hb3
  clear hb3
  have d2 : ((n + n' : Nat) : Int) = (n : Int) + (n' : Int) := by omega
  go_wp2_with fail
  go_loopw [11, 13, 52] (fun sv _ i wr => ∃ k : Nat, k ≤ n + n' ∧ i = .int .i64 k ∧ Hid (OwnI w0 3 wr sv (wl F G (px ms) k).length (whX F G (px ms) (n + n'))) ∧ Hid (wr.heap[b3]? = some (.cells cur3 64))) (fun _ _ i _ => (n + n') - (intOf i).toNat)
  case atStart => exact ⟨0, by omega, rfl, OW, HB3⟩
  case round =>
    obtain ⟨k, hk, rfl, hown, hb⟩ := hrel
    clear OW HB3
    by_cases hlt : k < n + n'
    · obtain ⟨c0, c1⟩ := HC.out wr hb.out k hlt
      rw [Nat.zero_add] at c0 c1
      have d3 : decide ((k : Int) < (n : Int) + (n' : Int)) = true := by simp; omega
      have hle := Lib.hid (wl_len F G (px ms) k)
      have hbl : b3 < wr.heap.size := (Array.getElem?_eq_some_iff.1 hb.out).1
      have gk := (Gr.refl wr).alloc (.cells #[.int .i64 (px ms k), .int .i64 (py ms k)] 64)
      cases hbt : btw F (px ms k) G with
      | true =>
        have E := Lib.hid (wl_yes hbt)
        have X := Lib.hid (show whX F G (px ms) (n + n') (wl F G (px ms) k).length = px ms k from wl_at hlt hbt)
        have CV := Lib.hid (fun w1 => (between_v hbt w1).mono fun _ _ h => (⟨h.1, h.2.symm⟩ : _ ∧ w1 = _))
        clear hbt
        go_wp2_with (first | (go_at_call 58; refine (CV.out _).mono ?_; rintro e w1 ⟨rfl, rfl⟩) | (at_builtin; go_must (refine wpList_app_int rfl _ _ 22 3 rfl Try.underlying22 Try.info3 _ (wl F G (px ms) k).length _ rfl ((hown.out.alloc _).alloc _) (wr.heap.size + 1) _ rfl (cell_new1' _ _ _ _ (by simp)) X.out (by have := hle.out; omega) ?_); intro v1 w4 hown1 hgr))
        go_roundw
        case rel =>
          refine ⟨k + 1, by omega, by go_num, ?_, ?_⟩
          · rw [E.out, List.length_append]; exact hown1
          · have hb4 : ((wr.alloc (.cells #[.int .i64 (px ms k), .int .i64 (py ms k)] 64)).alloc (.cells #[.int .i64 (px ms k)] 3)).heap[b3]? = some (.cells cur3 64) := by
              rw [Below.block (gk.alloc _) b3 hbl]; exact hb.out
            have hw := hgr.block b3 (Array.getElem?_eq_some_iff.1 hb4).1 ?_
            · exact hw.trans hb4
            · intro e
              exact own_type (Hid.out hown).1 (gk.alloc _) e hb4
        case measure => simp [intOf]; omega
      | false =>
        have E := Lib.hid (wl_no hbt)
        have CV := Lib.hid (fun w1 => (between_v hbt w1).mono fun _ _ h => (⟨h.1, h.2.symm⟩ : _ ∧ w1 = _))
        clear hbt
        go_wp2_with (go_at_call 58; refine (CV.out _).mono ?_; rintro e w1 ⟨rfl, rfl⟩)
        go_roundw
        case rel =>
          refine ⟨k + 1, by omega, by go_num, ?_, ?_⟩
          · rw [E.out]; exact hown.out.alloc _
          · rw [Below.block gk b3 hbl]; exact hb.out
        case measure => simp [intOf]; omega
    · obtain rfl : k = n + n' := by omega
      have d3 : decide (((n + n' : Nat) : Int) < (n : Int) + (n' : Int)) = false := by simp
      have hle := Lib.hid (wl_len F G (px ms) (n + n'))
      have FIN := Lib.hid (fun (a : Int) (h : PrM p q F (srF (whX F G (px ms) (n + n')) (wl F G (px ms) (n + n')).length) (wl F G (px ms) (n + n')).length a) => srX_fin h)
      have SB := Lib.hid (fun i (hi : i < (wl F G (px ms) (n + n')).length) => srX_bd hFG hi)
      have SM := Lib.hid (fun i j (h : i ≤ j) (hj : j < (wl F G (px ms) (n + n')).length) => srF_mono (X := whX F G (px ms) (n + n')) h hj)
      have SO := Lib.hid (SortT_any 3 w0 wr _ u11 _ (by have := hle.out; omega) (by have := hle.out; omega) hown.out)
      clear hown hb HC
      generalize WS F G (px ms) (n + n') = W at *
      generalize whX F G (px ms) (n + n') = X at *
      generalize (wl F G (px ms) (n + n')).length = m at *
      generalize srF X m = S at *
      go_wp2_with fail
      refine SO.out.mono ?_
      rintro e w4 ⟨rfl, b5, c5, rfl, hb5, hs, g5⟩
      have HS := Lib.hid hs
      clear hs SO
      go_wp2_with fail
      refine (RA.out F (by omega) _ (HR.out.gr (g0.trans g5)) (HR'.out.gr (g0.trans g5))).mono ?_
      rintro e w5 ⟨rfl, g6⟩
      have hz5 : w4.heap.size ≤ w5.heap.size := g6.size
      have hb5 : b5 < w4.heap.size := World.block_lt_of_cell? w4 _ (HS.out 0 (by have := hle.out; omega))
      have B15 : Hid (Box2 (w5.alloc (.cells #[.int .i64 (p F), .int .i64 (q F)] 37)) w5.heap.size (p F) (q F)) := Lib.hid (Box2.new rfl)
      replace g6 := g6.alloc (.cells #[.int .i64 (p F), .int .i64 (q F)] 37)
      go_wp2_with fail
      go_loopw [14, 17, 18, 76] (fun at_ _ _ i wr => ∃ (mm : Int) (k : Nat), at_ = .int .i64 mm ∧ i = .int .i64 k ∧ k ≤ m ∧ Hid (PrM p q F S k mm) ∧ Hid (Box2 wr w5.heap.size (p mm) (q mm)) ∧ Gr w4 wr) (fun _ _ _ i _ => m - (intOf i).toNat)
      case atStart => exact ⟨F, 0, rfl, rfl, by omega, PrM.start F S, B15, g6⟩
      case round =>
        obtain ⟨mm, k, rfl, rfl, hk, HP, hb15, g⟩ := hrel
        clear B15 g6
        by_cases hlt : k < m
        · have cs := g.cell (HS.out k hlt)
          have hm62 : m ≤ 62 := by have := hle.out; omega
          have hsk := SB.out k hlt
          have hmm : F ≤ mm ∧ mm ≤ G := HP.out.bd hFG fun i hi => SB.out i (by omega)
          have bx := BD.out (S k) (by omega)
          have bm := BD.out mm (by omega)
          have CO := Lib.hid (fun w1 => compare_any (p (S k)) (q (S k)) (p mm) (q mm) w1 (by omega) (by omega) (by omega) (by omega))
          have HX := Lib.hid (show -200000 ≤ S k ∧ S k ≤ 200000 by omega)
          have HFS := Lib.hid hsk.1
          clear bx bm hsk hmm
          go_wp2_with fail
          refine (RA.out _ HX.out _ (HR.out.gr ((g0.trans g5).trans g)) (HR'.out.gr ((g0.trans g5).trans g))).mono ?_
          rintro e w6 ⟨rfl, g7⟩
          have g8 := g7.trans ((Gr.refl w6).alloc (.cells #[.int .i64 (p (S k)), .int .i64 (q (S k))] 37))
          have B15 := Lib.hid (hb15.out.gr g8)
          have h15 : w5.heap.size < w6.heap.size := World.block_lt_of_cell? w6 _ (hb15.out.gr g7).1
          have B18 : Hid (Box2 (w6.alloc (.cells #[.int .i64 (p (S k)), .int .i64 (q (S k))] 37)) w6.heap.size (p (S k)) (q (S k))) := Lib.hid (Box2.new rfl)
          replace g8 := g.trans g8
          clear g g7 hb15 cs
          obtain ⟨s0, s1, f0, f1⟩ := id B15.out
          obtain ⟨s2, s3, f2, f3⟩ := id B18.out
          by_cases ht : p mm * q (S k) < p (S k) * q mm
          · have HT := Lib.hid (HP.out.yes Q.out ht)
            have CV := Lib.hid (fun w1 => show Calls Try.prog 77 #[.agg #[.int .i64 (p (S k)), .int .i64 (q (S k))], .agg #[.int .i64 (p mm), .int .i64 (q mm)]] w1 fun e w' => e = .returned (.int .i64 1) ∧ Gr w1 w' by
              have h := CO.out w1
              rw [show cmpI (p (S k) * q mm) (p mm * q (S k)) = 1 by unfold cmpI; rw [if_neg (by omega), if_pos ht]] at h
              exact h)
            clear ht CO
            go_wp2_with fail
            refine (CV.out _).mono ?_
            rintro e w7 ⟨rfl, g9⟩
            replace B15 := Lib.hid (B15.out.gr g9)
            replace B18 := Lib.hid (B18.out.gr g9)
            replace g8 := g8.trans g9
            clear g9 s0 s1 f0 f1 s2 s3 f2 f3 CV
            obtain ⟨s0, s1, f0, f1⟩ := id B15.out
            obtain ⟨s2, s3, f2, f3⟩ := id B18.out
            go_wp2_with fail
            go_region
            all_goals go_wp2_with fail
            go_roundw
            case rel => exact ⟨S k, k + 1, rfl, by go_num, by omega, HT, Lib.hid B15.out.put.drew, ((g8.setAt (by omega) _).setAt (by omega) _).drew⟩
            case measure => simp [intOf]; omega
          · have HT := Lib.hid (HP.out.no ht HFS.out fun j hj => SM.out j k (by omega) hlt)
            have CV := Lib.hid (fun w1 => show Calls Try.prog 77 #[.agg #[.int .i64 (p (S k)), .int .i64 (q (S k))], .agg #[.int .i64 (p mm), .int .i64 (q mm)]] w1 fun e w' => (∃ r : Int, decide (0 < r) = false ∧ e = .returned (.int .i64 r)) ∧ Gr w1 w' by
              refine (CO.out w1).mono ?_
              rintro e w' ⟨rfl, g⟩
              refine ⟨⟨_, ?_, rfl⟩, g⟩
              rw [decide_eq_false_iff_not]
              unfold cmpI
              repeat' split
              all_goals omega)
            clear ht CO
            go_wp2_with fail
            refine (CV.out _).mono ?_
            rintro e w7 ⟨⟨r, hr0, rfl⟩, g9⟩
            replace B15 := Lib.hid (B15.out.gr g9)
            replace g8 := g8.trans g9
            clear g9 s0 s1 f0 f1 s2 s3 f2 f3 CV B18
            go_wp2_with fail
            go_roundw
            case rel => exact ⟨mm, k + 1, rfl, by go_num, by omega, HT, B15, g8⟩
            case measure => simp [intOf]; omega
        · obtain rfl : k = m := by omega
          have HW := Lib.hid (FIN.out mm HP.out)
          clear FIN SB SM HS
          obtain ⟨s0, s1, f0, f1⟩ := id hb15.out
          have b9 := B9.out.gr (g5.trans g)
          obtain ⟨s2, s3, f2, f3⟩ := id b9
          obtain ⟨y0, y1, -, -⟩ := (b9.put (x' := p mm) (y' := q mm)).drew
          go_wp2_with fail
          go_region
          all_goals go_wp2_with fail
          clear s0 s1 s2 s3
          refine bodyPost_ret (v := .tuple #[.int .i64 mm, .agg #[.int .i64 (p mm), .int .i64 (q mm)], .int .i64 0]) (by simp [results, Try.results50, go_sem, y0, y1]) rfl ⟨mm, HW.out, rfl, ?_⟩
          exact ((((g0.trans g5).trans g).setAt (by omega) _).setAt (by omega) _).drew
end Go.Proofs.Ytdlbgelidcfmiaa
