/- Contracts of chapter 1: the least and the greatest speed. -/
import Derived.Test.YtdlbgelidcfmiaaW23
namespace Go.Proofs.Ytdlbgelidcfmiaa
open Go.RowKit Go.Firn

/-- The speed of line i, in lowest terms. -/
def sF (L T : Nat → Int) (i : Nat) : Int := rN (aD T i) (aD L i)
def sG (L T : Nat → Int) (i : Nat) : Int := rD (aD T i) (aD L i)

theorem info37 : (Try.prog.info? 37).map (fun i => (i.zero, i.size, i.bytes)) = some (some (.agg #[.int .i64 0, .int .i64 0]), 2, 16) := by kernel_rfl

/-- Two ratios and an error. -/
def RetRRE (p q r s err : Int) (w : World) (e : Ending) (w' : World) : Prop :=
  e = .returned (.tuple #[.agg #[.int .i64 p, .int .i64 q], .agg #[.int .i64 r, .int .i64 s], .int .i64 err]) ∧ Gr w w'

theorem sFG_bd {n : Nat} {L T : Nat → Int} (hv : vK n L T = true) {i : Nat} (hi : i + 1 < n) : (0 < sF L T i ∧ sF L T i ≤ 100000) ∧ (0 < sG L T i ∧ sG L T i ≤ 100000) := by
  obtain ⟨_, _, hB, hs⟩ := vK_true.1 hv
  have b0 := hB i (by omega)
  have b1 := hB (i + 1) hi
  have s := hs i hi
  have dL : 0 < aD L i ∧ aD L i ≤ 100000 := by unfold aD; omega
  have dT : 0 < aD T i ∧ aD T i ≤ 100000 := by unfold aD; omega
  have m := red_mul (aD T i) (aD L i)
  have p1 := rD_pos (aD T i) dL.1
  have p2 := rD_le (aD T i) dL.1
  have p3 := rN_nonneg (n := aD T i) (d := aD L i) (by omega)
  have p4 := rN_le (n := aD T i) (d := aD L i) (by omega)
  have p5 : rN (aD T i) (aD L i) ≠ 0 := by
    intro h
    rw [h, Int.zero_mul] at m
    have := Int.mul_pos dT.1 p1
    omega
  unfold sF sG
  omega

theorem speed_at {n : Nat} {L T : Nat → Int} (hv : vK n L T = true) {k : Nat} (h1 : 1 ≤ k) (hk : k < n) (w : World) :
    Calls Try.prog 70 #[.agg #[.int .i64 (L (k - 1)), .int .i64 (T (k - 1)), .int .i64 (L k), .int .i64 (T k)]] w (RetR (sF L T (k - 1)) (sG L T (k - 1)) w) := by
  obtain ⟨_, _, hB, hs⟩ := vK_true.1 hv
  have b0 := hB (k - 1) (by omega)
  have b1 := hB k hk
  have s := hs (k - 1) (by omega)
  have e : k - 1 + 1 = k := by omega
  rw [e] at s
  have h := speed_any (L (k - 1)) (T (k - 1)) (L k) (T k) w (by omega) (by omega) (by omega) (by omega) s.1
  unfold sF sG aD
  rw [e]
  exact h
theorem refspeed_at {n : Nat} {L T : Nat → Int} (hv : vK n L T = true) {k : Nat} (h1 : 1 ≤ k) (hk : k < n) (w : World) :
    Calls Try.prog 72 #[.agg #[.int .i64 (L (k - 1)), .int .i64 (T (k - 1))], .agg #[.int .i64 (L k), .int .i64 (T k)]] w (RetR (sF L T (k - 1)) (sG L T (k - 1)) w) := by
  obtain ⟨_, _, hB, hs⟩ := vK_true.1 hv
  have b0 := hB (k - 1) (by omega)
  have b1 := hB k hk
  have s := hs (k - 1) (by omega)
  have e : k - 1 + 1 = k := by omega
  rw [e] at s
  have h := refspeed_any (L (k - 1)) (T (k - 1)) (L k) (T k) w (by omega) (by omega) (by omega) (by omega) s.1
  unfold sF sG aD
  rw [e]
  exact h

set_option maxRecDepth 100000 in
set_option maxHeartbeats 1000000 in
theorem Speeds_ok (a : Option Addr) (n c : Nat) (L T : Nat → Int) (w : World) (hn : n ≤ 9223372036854775807) (hr : RdM w a n L T) (hv : vK n L T = true) :
    Calls Try.prog 42 #[.slice a n c] w (RetRRE (sF L T (mnI (sF L T) (sG L T) (n - 2))) (sG L T (mnI (sF L T) (sG L T) (n - 2))) (sF L T (mxI (sF L T) (sG L T) (n - 2))) (sG L T (mxI (sF L T) (sG L T) (n - 2))) 0 w) := by
  obtain ⟨hn2, hn30, -, -⟩ := vK_true.1 hv
  have Hv := Lib.hid hv
  have SP := Lib.hid (fun (k : Nat) (h1 : 1 ≤ k) (hk : k < n) wz => speed_at hv h1 hk wz)
  have BD : Hid (∀ i, i < n - 1 → (0 ≤ sF L T i ∧ sF L T i ≤ 9223372036854775807) ∧ (0 ≤ sG L T i ∧ sG L T i ≤ 9223372036854775807)) := Lib.hid fun i hi => by
    have := sFG_bd hv (i := i) (by omega); omega
  have e2 : n - 2 = n - 1 - 1 := by omega
  rw [e2]
  have MN := Lib.hid (fun a2 c2 w1 h => MinFunc_any a2 (n - 1) c2 (sF L T) (sG L T) w1 (by omega) (by omega) h BD)
  have MX := Lib.hid (fun a2 c2 w1 h => MaxFunc_any a2 (n - 1) c2 (sF L T) (sG L T) w1 (by omega) (by omega) h BD)
  clear hv e2 BD
  generalize mnI (sF L T) (sG L T) (n - 1 - 1) = mn at *
  generalize mxI (sF L T) (sG L T) (n - 1 - 1) = mx at *
  generalize sF L T = f at *
  generalize sG L T = g at *
  have g0 : Gr w ((w.alloc (.cells #[.int .i64 0, .int .i64 0] 37)).alloc (.cells #[.int .i64 0, .int .i64 0] 37)) := ((Gr.refl w).alloc _).alloc _
  have B2 : Hid (Box2 ((w.alloc (.cells #[.int .i64 0, .int .i64 0] 37)).alloc (.cells #[.int .i64 0, .int .i64 0] 37)) w.heap.size 0 0) := Lib.hid ((Box2.new rfl).gr ((Gr.refl _).alloc _))
  have B3 : Hid (Box2 ((w.alloc (.cells #[.int .i64 0, .int .i64 0] 37)).alloc (.cells #[.int .i64 0, .int .i64 0] 37)) (w.heap.size + 1) 0 0) := Lib.hid (Box2.new (by simp))
  obtain ⟨b, o, rfl, hc⟩ := hr.at (k := 0) (by omega)
  have Hc := Lib.hid hc
  clear hc
  go_enter Try.func42, Try.ntmps42
  go_wp2_with fail
  refine (ValidClock_any _ n c L T _ hn (hr.gr g0)).mono ?_
  rintro e w1 ⟨rfl, gz⟩
  rw [Hv.out]
  clear hr
  have B2' := Lib.hid (B2.out.gr gz)
  have B3' := Lib.hid (B3.out.gr gz)
  have g1 := g0.trans gz
  clear gz g0 B2 B3
  go_wp2_with fail
  go_loopw [5, 6] (fun out i wr => ∃ k : Nat, 1 ≤ k ∧ k ≤ n ∧ i = .int .i64 k ∧ OwnM w1 37 wr out (pairs (k - 1) f g)) (fun _ i _ => n - (intOf i).toNat)
  case atStart => exact ⟨1, by omega, by omega, rfl, OwnM.nil _ _⟩
  case round =>
    obtain ⟨k, hk1, hk, rfl, hown⟩ := hrel
    by_cases hlt : k < n
    · have i1 : (k : Int) < n := by omega
      have i2 : (0 : Int) ≤ (k : Int) - 1 := by omega
      have i22 : (1 : Int) ≤ (k : Int) := by omega
      have i3 : (k : Int) - 1 < n := by omega
      have i4 : IntKind.i64.wrap ((k : Int) - 1) = (k : Int) - 1 := IntWalk.i64_in _ (by omega)
      have i5 : ((k : Int) - 1).toNat = k - 1 := by omega
      have G := g1.trans hown.2
      have c1 := G.cell (Hc.out k hlt).1
      have c2 := G.cell (Hc.out k hlt).2
      have c3 := G.cell (Hc.out (k - 1) (by omega)).1
      have c4 := G.cell (Hc.out (k - 1) (by omega)).2
      have hl : (pairs (k - 1) f g).length < 1000000000 := by rw [pairs_length]; omega
      have hk2 : k - 1 < n := by omega
      go_wp2_with fail
      go_region_held3 (fun w' => w'.cell? ⟨b, o + k * 2, none⟩ = some (.int .i64 (L k)) ∧ w'.cell? ⟨b, o + k * 2 + 1, none⟩ = some (.int .i64 (T k)) ∧ w'.cell? ⟨b, o + (k - 1) * 2, none⟩ = some (.int .i64 (L (k - 1))) ∧ w'.cell? ⟨b, o + (k - 1) * 2 + 1, none⟩ = some (.int .i64 (T (k - 1))))
        (first | go_keep | exact ⟨g2.cell c1, g2.cell c2, g2.cell c3, g2.cell c4⟩ | (have G2 := g1.trans hown2.2; exact ⟨G2.cell (Hc.out k hlt).1, G2.cell (Hc.out k hlt).2, G2.cell (Hc.out (k - 1) hk2).1, G2.cell (Hc.out (k - 1) hk2).2⟩))
        (first
          | (go_at_call 70; refine (SP.out k hk1 hlt _).mono ?_; rintro e w2 ⟨rfl, g2⟩)
          | (refine step_app_pair rfl _ _ 85 37 rfl Try.underlying85 info37 _ (pairs (k - 1) f g) rfl ((hown.drew.gr g2).alloc _) _ _ _ rfl (cell_new2 _ _ _ _) hl ?_; intro v1 w3 hown2 _))
      have e : pairs (k - 1) f g ++ [(f (k - 1), g (k - 1))] = pairs (k + 1 - 1) f g := by
        rw [← pairs_succ]; congr 1; omega
      rw [e] at hown2
      go_wp2_with fail
      go_roundw
      case rel => exact ⟨k + 1, by omega, by omega, by go_num, hown2⟩
      case measure => simp [intOf]; omega
    · have e : k = n := by omega
      subst e
      have G := g1.trans hown.2
      have B2 := Lib.hid (B2'.out.gr hown.2)
      have B3 := Lib.hid (B3'.out.gr hown.2)
      obtain ⟨a2, c2, rfl, h1, h2, h3⟩ := hown.rd
      clear hown B2' B3' g1
      rw [pairs_length] at h1 h3
      replace h3 := h3.congr (f' := f) (g' := g) fun i hi => ⟨px_pairs f g hi, py_pairs f g hi⟩
      rw [pairs_length]
      go_wp2_with fail
      refine (MN.out _ _ _ h3).mono ?_
      rintro e w2 ⟨rfl, g2⟩
      go_wp2_with fail
      refine (MX.out _ _ _ (h3.gr g2)).mono ?_
      rintro e w3 ⟨rfl, g3⟩
      have g4 := g2.trans g3
      have B2b := B2.out.gr g4
      have B3b := B3.out.gr g4
      replace G := G.trans g4
      clear B2 B3 g2 g3 g4
      obtain ⟨s0, s1, f0, f1⟩ := id B2b
      obtain ⟨s2, s3, f2, f3⟩ := id B3b
      have hz : w.heap.size + 1 < w3.heap.size := World.block_lt_of_cell? w3 _ s2
      have F2 := Lib.hid ((B2b.put (x' := f mn) (y' := g mn)).far (b' := w.heap.size + 1) (by omega) (.int .i64 (f mx)) (.int .i64 (g mx)))
      have F3 := Lib.hid ((B3b.far (b' := w.heap.size) (by omega) (.int .i64 (f mn)) (.int .i64 (g mn))).put (x' := f mx) (y' := g mx))
      go_wp2_with fail
      obtain ⟨t0, t1, _, _⟩ := F2.out
      obtain ⟨t2, t3, _, _⟩ := F3.out
      clear s0 s1 s2 s3
      refine bodyPost_ret (v := .tuple #[.agg #[.int .i64 (f mn), .int .i64 (g mn)], .agg #[.int .i64 (f mx), .int .i64 (g mx)], .int .i64 0]) (by simp [results, Try.results42, go_sem, t0, t1, t2, t3]) rfl ⟨rfl, ?_⟩
      exact (((G.setAt (by omega) _).setAt (by omega) _).setAt (by omega) _).setAt (by omega) _

set_option maxRecDepth 100000 in
theorem Speeds_no (a : Option Addr) (n c : Nat) (L T : Nat → Int) (w : World) (hn : n ≤ 9223372036854775807) (hr : RdM w a n L T) (hv : vK n L T = false) :
    Calls Try.prog 42 #[.slice a n c] w (RetRRE 0 0 0 0 11 w) := by
  have Hv := Lib.hid hv
  clear hv
  have g0 : Gr w ((w.alloc (.cells #[.int .i64 0, .int .i64 0] 37)).alloc (.cells #[.int .i64 0, .int .i64 0] 37)) := ((Gr.refl w).alloc _).alloc _
  have B2 : Hid (Box2 ((w.alloc (.cells #[.int .i64 0, .int .i64 0] 37)).alloc (.cells #[.int .i64 0, .int .i64 0] 37)) w.heap.size 0 0) := Lib.hid ((Box2.new rfl).gr ((Gr.refl _).alloc _))
  have B3 : Hid (Box2 ((w.alloc (.cells #[.int .i64 0, .int .i64 0] 37)).alloc (.cells #[.int .i64 0, .int .i64 0] 37)) (w.heap.size + 1) 0 0) := Lib.hid (Box2.new (by simp))
  go_enter Try.func42, Try.ntmps42
  go_wp2_with fail
  refine (ValidClock_any _ n c L T _ hn (hr.gr g0)).mono ?_
  rintro e w1 ⟨rfl, gz⟩
  rw [Hv.out]
  clear hr
  have B2b := B2.out.gr gz
  have B3b := B3.out.gr gz
  have G := g0.trans gz
  clear gz g0 B2 B3
  obtain ⟨s0, s1, f0, f1⟩ := id B2b
  obtain ⟨s2, s3, f2, f3⟩ := id B3b
  have hz : w.heap.size + 1 < w1.heap.size := World.block_lt_of_cell? w1 _ s2
  have F2 := Lib.hid ((B2b.put (x' := 0) (y' := 0)).far (b' := w.heap.size + 1) (by omega) (.int .i64 0) (.int .i64 0))
  have F3 := Lib.hid ((B3b.far (b' := w.heap.size) (by omega) (.int .i64 0) (.int .i64 0)).put (x' := 0) (y' := 0))
  go_wp2_with fail
  obtain ⟨t0, t1, _, _⟩ := F2.out
  obtain ⟨t2, t3, _, _⟩ := F3.out
  clear s0 s1 s2 s3
  refine bodyPost_ret (v := .tuple #[.agg #[.int .i64 0, .int .i64 0], .agg #[.int .i64 0, .int .i64 0], .int .i64 11]) (by simp [results, Try.results42, go_sem, t0, t1, t2, t3]) rfl ⟨rfl, ?_⟩
  exact (((G.setAt (by omega) _).setAt (by omega) _).setAt (by omega) _).setAt (by omega) _

end Go.Proofs.Ytdlbgelidcfmiaa
