/- Contracts of chapter 7: slices.SortStableFunc of at most 20 outcomes, and the row. -/
import Derived.Test.YtohcnicadbpbbaaDoorWB
import Derived.Test.YtohcnicadbpbbaaDoorP8
namespace Go.Proofs.YtohcnicadbpbbaaDoor
open Go.RowKit Go.Firn

theorem Tryd.info3 : (Tryd.prog.info? 3).map (fun i => (i.zero, i.size, i.bytes)) = some (some (.int .i64 0), 1, 8) := by kernel_rfl

set_option maxHeartbeats 2000000 in
theorem stable_any (a a2 : Option Addr) (n c d : Nat) (f g : Nat → Int) (u v : Value) (b cap m : Nat) (R : Nat → Nat) (w0 w : World) (hm : m ≤ 19) (g0 : Gr w0 w) (hb : w0.heap.size ≤ b)
    (hr : RdI w0 a n f) (hs : RdI w0 a2 n g) (hf : ∀ k, k < n → 0 ≤ f k ∧ f k ≤ 1000) (hg : ∀ k, k < n → 0 ≤ g k ∧ g k ≤ 1000) (hR : ∀ p, p < m → R p < n) (hw : RowN w b m R) :
    Calls Tryd.prog 91 #[.slice (some ⟨b, 0, none⟩) m cap, .int .i64 m, .func (.func 82) #[.agg #[.slice a n c, .slice a2 n d, u, v]] #[]] w fun e w' =>
      e = .returned (.tuple #[]) ∧ Wr b w w' ∧ RowN w' b m (insO (fun i j => decide (cmpO f g i j < 0)) (m - 1) 1 R) := by
  have C := Lib.hid (ins_any a a2 n c d f g u v b cap m R w0 w (by omega) g0 hb hr hs hf hg hR hw)
  have q : (m : Int) ≤ 19 := by omega
  generalize insO (fun i j => decide (cmpO f g i j < 0)) (m - 1) 1 R = R1 at *
  clear hr hs hf hg hR hw g0 hb
  go_enter Tryd.func91, Tryd.ntmps91
  go_wp2_with fail
  go_loopw [7, 8] (fun y z wr => y = .int .i64 0 ∧ z = .int .i64 20 ∧ wr = w) (fun _ _ _ => 0)
  case atStart => exact ⟨rfl, rfl, rfl⟩
  case round =>
    obtain ⟨rfl, rfl, rfl⟩ := hrel
    go_wp2_with (go_at_call 104; (with_reducible refine C.out.mono ?_); rintro e w1 ⟨rfl, h1, h2⟩; have H1 := Lib.hid h1; have H2 := Lib.hid h2; clear h1 h2)
    go_loopw [6, 7, 8, 9] (fun x y z _ wr => x = .int .i64 20 ∧ y = .int .i64 0 ∧ z = .int .i64 20 ∧ wr = w1) (fun _ _ _ _ _ => 0)
    case atStart => exact ⟨rfl, rfl, rfl, rfl⟩
    case round =>
      obtain ⟨rfl, rfl, rfl, rfl⟩ := hrel
      go_wp2_with fail
      go_end0
      exact ⟨rfl, H1.out, H2.out⟩

theorem SortStable_any (a a2 : Option Addr) (n c d : Nat) (f g : Nat → Int) (u v : Value) (b cap m : Nat) (R : Nat → Nat) (w0 w : World) (hm : m ≤ 19) (g0 : Gr w0 w) (hb : w0.heap.size ≤ b)
    (hr : RdI w0 a n f) (hs : RdI w0 a2 n g) (hf : ∀ k, k < n → 0 ≤ f k ∧ f k ≤ 1000) (hg : ∀ k, k < n → 0 ≤ g k ∧ g k ≤ 1000) (hR : ∀ p, p < m → R p < n) (hw : RowN w b m R) :
    Calls Tryd.prog 81 #[.slice (some ⟨b, 0, none⟩) m cap, .func (.func 82) #[.agg #[.slice a n c, .slice a2 n d, u, v]] #[]] w fun e w' =>
      e = .returned (.tuple #[]) ∧ Wr b w w' ∧ RowN w' b m (insO (fun i j => decide (cmpO f g i j < 0)) (m - 1) 1 R) := by
  have C := Lib.hid (stable_any a a2 n c d f g u v b cap m R w0 w hm g0 hb hr hs hf hg hR hw)
  generalize insO (fun i j => decide (cmpO f g i j < 0)) (m - 1) 1 R = R1 at *
  clear hr hs hf hg hR hw g0 hb
  go_enter Tryd.func81, Tryd.ntmps81
  go_wp2_with (go_at_call 91; (with_reducible refine C.out.mono ?_); rintro e w1 ⟨rfl, h1, h2⟩)
  go_end0
  exact ⟨rfl, h1, h2⟩

/-- A slice of ints of the call's own. -/
def RetI1 (n : Nat) (f : Nat → Int) (w : World) (e : Ending) (w' : World) : Prop :=
  ∃ a c, e = .returned (.slice a n c) ∧ n ≤ c ∧ c ≤ maxLen ∧ RdI w' a n f ∧ Gr w w'

/-- The row of the call's own as numbers. -/
theorem OwnI.rowN {w0 w : World} {v : Value} {n : Nat} (h : OwnI w0 3 w v n (fun i => (i : Int))) (hn : 0 < n) : ∃ b c, v = .slice (some ⟨b, 0, none⟩) n c ∧ n ≤ c ∧ c ≤ maxLen ∧ w0.heap.size ≤ b ∧ RowN w b n id := by
  have h0 := h.1
  obtain ⟨hl, hv⟩ := h.1
  rcases hv with ⟨rfl, hz⟩ | ⟨b, cap, cur, rfl, hb, hg, hnc, hcm, hcs, htake⟩
  · omega
  · refine ⟨b, cap, rfl, hnc, hcm, hb, fun p hp => ?_⟩
    have hc := h0.cells (g := b) rfl p (.int .i64 (p : Int)) (by simp [ints, hp])
    have hadd : (⟨b, 0, none⟩ : Addr).add p = ⟨b, p, none⟩ := by rw [add_flat rfl]; simp
    rw [hadd] at hc
    refine ⟨hc, ?_⟩
    unfold World.frozen?
    rw [hg]
    simp

set_option maxHeartbeats 2000000 in
set_option maxRecDepth 100000 in
theorem row_any (a a2 : Option Addr) (n c d : Nat) (f g : Nat → Int) (u v : Value) (w : World) (hn : 0 < n ∧ n ≤ 10) (hr : RdI w a n f) (hs : RdI w a2 n g)
    (hf : ∀ k, k < n → 0 ≤ f k ∧ f k ≤ 1000) (hg : ∀ k, k < n → 0 ≤ g k ∧ g k ≤ 1000) :
    Calls Tryd.prog 57 #[.agg #[.slice a n c, .slice a2 n d, u, v]] w (RetI1 n (fun p => (rowN f g n p : Int)) w) := by
  obtain ⟨W0, hW0⟩ : ∃ W0, w.alloc (.cells #[.slice a n c, .slice a2 n d, u, v] 58) = W0 := ⟨_, rfl⟩
  have G0 := Lib.hid (show Gr w W0 by rw [← hW0]; exact (Gr.refl w).alloc _)
  have B := Lib.hid (show Box4 W0 w.heap.size (.slice a n c) (.slice a2 n d) u v by rw [← hW0]; exact Box4.new rfl)
  have hmf : ∀ (fn : Fn) (first cap : Array Value) (w : World), (Instr.makeFunc fn first cap).run Tryd.prog w = .ok (.func fn first cap) w := fun _ _ _ _ => rfl
  have CS := Lib.hid (fun (wz : World) (k : Gr W0 wz) (b cap : Nat) (hb : W0.heap.size ≤ b) (hw : RowN wz b n id) => SortStable_any a a2 n c d f g u v b cap n id W0 wz (by omega) k hb (hr.gr G0.out) (hs.gr G0.out) hf hg (fun p hp => hp) hw)
  have e : insO (fun i j => decide (cmpO f g i j < 0)) (n - 1) 1 id = rowN f g n := rfl
  rw [e] at CS
  generalize rowN f g n = R at *
  obtain ⟨p0, p1, p2, p3, _⟩ := B.out
  clear hr hs hf hg e
  go_enter Tryd.func57, Tryd.ntmps57
  go_wp2_with fail
  go_loopw [3, 4, 9] (fun out _ i wr => ∃ k : Nat, k ≤ n ∧ i = .int .i64 k ∧ OwnI W0 3 wr out k (fun i => (i : Int))) (fun _ _ i _ => n - (intOf i).toNat)
  case atStart => exact ⟨0, by omega, rfl, OwnI.nil' (by first | exact (Gr.refl _).drew | exact Gr.refl _) _ _⟩
  case round =>
    obtain ⟨k, hk, rfl, hown⟩ := hrel
    by_cases hlt : k < n
    · have hlti : (k : Int) < (n : Int) := by omega
      have hk9 : k < 1000000000 := by omega
      go_wp2_with (at_builtin; go_must (refine wpList_app_int rfl _ _ 22 3 rfl Tryd.underlying22 Tryd.info3 _ k _ rfl (hown.alloc _) _ _ rfl (cell_new1 _ _ _) rfl hk9 ?_); intro v1 w1 hown1 _)
      go_roundw
      case rel => exact ⟨k + 1, by omega, by go_num, hown1⟩
      case measure => simp [intOf]; omega
    · have : k = n := by omega
      subst this
      obtain ⟨b, cap, rfl, h1, h2, h3, h4⟩ := OwnI.rowN hown hn.1
      obtain ⟨z0, z1, z2, z3, _⟩ := B.out.gr hown.2
      have C := Lib.hid (CS.out _ hown.2 b cap h3 h4)
      have GG := Lib.hid hown.2
      clear hown h4
      go_wp2_with (go_at_call 81; (with_reducible refine C.out.mono ?_); rintro e w1 ⟨rfl, k1, k2⟩)
      go_ret
      refine ⟨_, _, rfl, h1, h2, .inr ⟨b, 0, rfl, fun i hi => ?_⟩, G0.out.trans (k1.gr GG.out h3)⟩
      rw [Nat.zero_add]; exact (k2 i hi).1

end Go.Proofs.YtohcnicadbpbbaaDoor
