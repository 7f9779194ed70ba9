/- Contracts of chapter 5: the reference's turned and raised points, and its line through two points; whether two lists of points are the same. -/
import Derived.Test.YtbhndfnfohoidaaW39
import Derived.Test.YtbhndfnfohoidaaW29
namespace Go.Proofs.Ytbhndfnfohoidaa
open Go.RowKit Go.Firn

set_option maxHeartbeats 1000000 in
theorem SamePoints_t (a a' : Option Addr) (n c c' : Nat) (f g : Nat → Int) (w : World) (hn : n ≤ 9223372036854775807) (hr : RdM w a n f g) (hr' : RdM w a' n f g) :
    Calls Try.prog 53 #[.slice a n c, .slice a' n c'] w (RetB true w) := by
  go_enter Try.func53, Try.ntmps53
  go_wp2
  go_loopw [13] (fun i wr => ∃ k : Nat, k ≤ n ∧ i = .int .i64 k ∧ Gr w wr) (fun i _ => n - (intOf i).toNat)
  case atStart => exact ⟨0, by omega, rfl, Gr.refl w⟩
  case round =>
    obtain ⟨k, hk, rfl, hg⟩ := hrel
    by_cases hlt : k < n
    · obtain ⟨b, o, rfl, hc⟩ := hr.at hlt
      obtain ⟨b', o', rfl, hc'⟩ := hr'.at hlt
      have c1 := hg.cell (hc k hlt).1
      have c2 := hg.cell (hc k hlt).2
      have c3 := hg.cell (hc' k hlt).1
      have c4 := hg.cell (hc' k hlt).2
      clear hc hr hc' hr'
      have i3 : (0 : Int) ≤ (k : Int) := by omega
      have i4 : (k : Int) < n := by omega
      generalize f k = x at *
      generalize g k = y at *
      go_wp2
      go_quiet (fail)
      go_wp2
      go_roundw
      case rel => exact ⟨k + 1, by omega, by go_num, hg.drewN _⟩
      case measure => simp [intOf]; omega
    · have : k = n := by omega
      subst this
      go_wp2_with fail
      go_ret
      exact ⟨rfl, hg⟩

set_option maxRecDepth 100000 in
set_option maxHeartbeats 2000000 in
theorem refTurned_any (a : Option Addr) (n c : Nat) (X Y : Nat → Int) (w : World) (hn : n ≤ 1000) (hr : RdM w a n X Y) :
    Calls Try.prog 54 #[.slice a n c] w (RetMs (okM (vE n X Y) (pairs n (ng X) Y)) (vE n X Y) w) := by
  have CV := Lib.hid (refValid_any a n c X Y w hn hr)
  cases hv : vP n X Y with
  | false =>
    rw [hv] at CV
    have E := Lib.hid (show vE n X Y = 50 by unfold vE; rw [hv]; rfl)
    rw [E.out, show okM 50 (pairs n (ng X) Y) = [] from rfl]
    clear hv hr
    go_enter Try.func54, Try.ntmps54
    go_wp2_with (go_at_call 29; (with_reducible refine CV.out.mono ?_); rintro e w1 ⟨rfl, g1⟩; have G1 := Lib.hid g1; clear g1)
    exact bodyPost_ret (v := .tuple #[.slice none 0 0, .int .i64 50]) (by simp [results, Try.results54, go_sem]) rfl ((OwnM.nil' G1.out 56).ret 50)
  | true =>
    rw [hv] at CV
    have V := Lib.hid (vP_iff.1 hv)
    have E := Lib.hid (show vE n X Y = 0 by unfold vE; rw [hv]; rfl)
    rw [E.out, show okM 0 (pairs n (ng X) Y) = pairs n (ng X) Y from rfl]
    have n12 := V.out.few
    have HR := Lib.hid hr
    clear hv hr
    go_enter Try.func54, Try.ntmps54
    go_wp2_with (go_at_call 29; (with_reducible refine CV.out.mono ?_); rintro e w1 ⟨rfl, g1⟩; have G1 := Lib.hid g1; clear g1)
    go_loopw [4, 12] (fun so sk wr => ∃ k : Nat, k ≤ n ∧ sk = .int .i64 k ∧ OwnM w 56 wr so (pairs k (ng X) Y)) (fun _ sk _ => n - (intOf sk).toNat)
    case atStart => exact ⟨0, Nat.zero_le _, rfl, OwnM.nil' G1.out 56⟩
    case round =>
      obtain ⟨k, hk, rfl, hown⟩ := hrel
      have hg := hown.2
      by_cases hlt : k < n
      · obtain ⟨b, o, ea, hc⟩ := (HR.out.gr hg).at hlt
        subst ea
        obtain ⟨c1, c2⟩ := hc k hlt
        have i1 : (k : Int) < n := by omega
        have RB := V.out.ok k hlt
        unfold InP at RB
        have PS := Lib.hid (pairs_succ k (ng X) Y)
        have hl : (pairs k (ng X) Y).length < 1000000000 := by rw [pairs_length]; omega
        have w1' : IntKind.i64.wrap (-X k) = ng X k := IntWalk.i64_in _ (by omega)
        generalize ng X k = nk at *
        generalize X k = xk at *
        generalize Y k = yk at *
        generalize pairs k (ng X) Y = L at *
        clear hc RB
        have HO := Lib.hid hown
        clear hown hg
        go_wp2_with (at_builtin; go_must (refine wpList_app_pair rfl _ _ 22 56 rfl Try.underlying22 Try.info56 _ L rfl ((HO.out.alloc _).alloc _) _ _ _ rfl (cell_new2s _ _ _ _ _) hl ?_); intro v1 w2 hown2 _)
        rw [← PS.out] at hown2
        go_roundw
        case rel => exact ⟨k + 1, by omega, by go_num, hown2⟩
        case measure => simp [intOf]; omega
      · obtain rfl : k = n := by omega
        go_wp2_with fail
        obtain ⟨a1, c1, rfl, h1, h2, h3⟩ := hown.rd
        exact bodyPost_ret (v := .tuple #[.slice a1 (pairs k (ng X) Y).length c1, .int .i64 0]) (by simp [results, Try.results54, go_sem]) rfl ⟨a1, c1, rfl, h1, h2, h3, hown.2⟩

set_option maxHeartbeats 1000000 in
theorem refThrough_any (x1 y1 x2 y2 : Int) (w : World) :
    Calls Try.prog 55 #[.agg #[.int .i64 x1, .int .i64 y1], .agg #[.int .i64 x2, .int .i64 y2]] w (RetLE (okE (thE x1 y1 x2 y2) (thA x1 y1 x2 y2)) (okE (thE x1 y1 x2 y2) (thB x1 y1 x2 y2)) (okE (thE x1 y1 x2 y2) (thD x1 y1 x2 y2)) (thE x1 y1 x2 y2) w) := by
  obtain ⟨W0, hW0⟩ : ∃ W0, ((w.alloc (.cells #[.int .i64 x1, .int .i64 y1] 56)).alloc (.cells #[.int .i64 x2, .int .i64 y2] 56)).alloc (.cells #[.int .i64 0, .int .i64 0, .int .i64 0] 37) = W0 := ⟨_, rfl⟩
  have G0 := Lib.hid (show Gr w W0 by rw [← hW0]; exact (((Gr.refl w).alloc _).alloc _).alloc _)
  have B2 := Lib.hid (show Box2 W0 w.heap.size x1 y1 by rw [← hW0]; exact (Box2.new rfl).gr (((Gr.refl _).alloc _).alloc _))
  have B3 := Lib.hid (show Box2 W0 (w.heap.size + 1) x2 y2 by rw [← hW0]; exact (Box2.new (by simp)).gr ((Gr.refl _).alloc _))
  have B4 := Lib.hid (show Box3 W0 (w.heap.size + 1 + 1) 0 0 0 by rw [← hW0]; exact Box3.new (by simp))
  have C1 := Lib.hid (fun w' => IsPoint_any x1 y1 w')
  have C2 := Lib.hid (fun w' => IsPoint_any x2 y2 w')
  obtain ⟨l0, l1, _, _⟩ := B2.out
  cases p1 : inPB x1 y1 with
  | false =>
    have E := Lib.hid (show thE x1 y1 x2 y2 = 50 by unfold thE; rw [p1]; rfl)
    have F := Lib.hid (show ∀ N, okE (thE x1 y1 x2 y2) N = 0 from fun N => by rw [E.out]; rfl)
    rw [F.out, F.out, F.out, E.out]
    clear E F
    rw [p1] at C1
    clear p1 C2
    go_enter Try.func55, Try.ntmps55
    go_wp2_with (go_at_call 56; (with_reducible refine (C1.out _).mono ?_); rintro e w1 ⟨rfl, g1⟩; have G1 := Lib.hid g1; obtain ⟨m0, m1, _, _⟩ := B2.out.gr g1; obtain ⟨n0, n1, _, _⟩ := B3.out.gr g1; obtain ⟨k0, k1, k2, k3, k4, k5⟩ := B4.out.gr g1; clear g1)
    obtain ⟨z0, z1, z2, _⟩ := Box3.put (show Box3 w1 (w.heap.size + 1 + 1) 0 0 0 from ⟨k0, k1, k2, k3, k4, k5⟩) (0) (0) (0)
    refine bodyPost_ret (v := .tuple #[.agg #[.int .i64 (0), .int .i64 (0), .int .i64 (0)], .int .i64 50]) (by simp [results, Try.results55, go_sem, z0, z1, z2]) rfl ⟨rfl, ?_⟩
    repeat (first | exact G0.out.trans G1.out | refine Gr.setCell ?_ (by simp; omega) _ | refine Gr.setCell ?_ (by simp) _ | refine Gr.alloc ?_ _ | refine Gr.drewN ?_ _ | refine Gr.drew ?_)
  | true =>
  cases p2 : inPB x2 y2 with
  | false =>
    have E := Lib.hid (show thE x1 y1 x2 y2 = 50 by unfold thE; rw [p1, p2]; rfl)
    have F := Lib.hid (show ∀ N, okE (thE x1 y1 x2 y2) N = 0 from fun N => by rw [E.out]; rfl)
    rw [F.out, F.out, F.out, E.out]
    clear E F
    rw [p1] at C1
    rw [p2] at C2
    clear p1 p2
    go_enter Try.func55, Try.ntmps55
    go_wp2_with (first | (go_at_call 56; (with_reducible refine (C1.out _).mono ?_); rintro e w1 ⟨rfl, g1⟩; have G1 := Lib.hid g1; obtain ⟨m0, m1, _, _⟩ := B2.out.gr g1; obtain ⟨n0, n1, _, _⟩ := B3.out.gr g1; obtain ⟨k0, k1, k2, k3, k4, k5⟩ := B4.out.gr g1; clear g1) | (go_at_call 56; (with_reducible refine (C2.out _).mono ?_); rintro e w2 ⟨rfl, g2⟩; have G2 := Lib.hid (G1.out.trans g2); obtain ⟨m0, m1, _, _⟩ := B2.out.gr G2.out; obtain ⟨n0, n1, _, _⟩ := B3.out.gr G2.out; obtain ⟨k0, k1, k2, k3, k4, k5⟩ := B4.out.gr G2.out; clear g2))
    obtain ⟨z0, z1, z2, _⟩ := Box3.put (show Box3 w2 (w.heap.size + 1 + 1) 0 0 0 from ⟨k0, k1, k2, k3, k4, k5⟩) (0) (0) (0)
    refine bodyPost_ret (v := .tuple #[.agg #[.int .i64 (0), .int .i64 (0), .int .i64 (0)], .int .i64 50]) (by simp [results, Try.results55, go_sem, z0, z1, z2]) rfl ⟨rfl, ?_⟩
    repeat (first | exact G0.out.trans G2.out | refine Gr.setCell ?_ (by simp; omega) _ | refine Gr.setCell ?_ (by simp) _ | refine Gr.alloc ?_ _ | refine Gr.drewN ?_ _ | refine Gr.drew ?_)
  | true =>
  by_cases hx : x1 = x2
  · subst hx
    have E := Lib.hid (show thE x1 y1 x1 y2 = 5 by unfold thE; rw [p1, p2]; simp)
    have F := Lib.hid (show ∀ N, okE (thE x1 y1 x1 y2) N = 0 from fun N => by rw [E.out]; rfl)
    rw [F.out, F.out, F.out, E.out]
    clear E F
    rw [p1] at C1
    rw [p2] at C2
    clear p1 p2
    go_enter Try.func55, Try.ntmps55
    go_wp2_with (first | (go_at_call 56; (with_reducible refine (C1.out _).mono ?_); rintro e w1 ⟨rfl, g1⟩; have G1 := Lib.hid g1; obtain ⟨m0, m1, _, _⟩ := B2.out.gr g1; obtain ⟨n0, n1, _, _⟩ := B3.out.gr g1; obtain ⟨k0, k1, k2, k3, k4, k5⟩ := B4.out.gr g1; clear g1) | (go_at_call 56; (with_reducible refine (C2.out _).mono ?_); rintro e w2 ⟨rfl, g2⟩; have G2 := Lib.hid (G1.out.trans g2); obtain ⟨m0, m1, _, _⟩ := B2.out.gr G2.out; obtain ⟨n0, n1, _, _⟩ := B3.out.gr G2.out; obtain ⟨k0, k1, k2, k3, k4, k5⟩ := B4.out.gr G2.out; clear g2))
    obtain ⟨z0, z1, z2, _⟩ := Box3.put (show Box3 w2 (w.heap.size + 1 + 1) 0 0 0 from ⟨k0, k1, k2, k3, k4, k5⟩) (0) (0) (0)
    refine bodyPost_ret (v := .tuple #[.agg #[.int .i64 (0), .int .i64 (0), .int .i64 (0)], .int .i64 5]) (by simp [results, Try.results55, go_sem, z0, z1, z2]) rfl ⟨rfl, ?_⟩
    repeat (first | exact G0.out.trans G2.out | refine Gr.setCell ?_ (by simp; omega) _ | refine Gr.setCell ?_ (by simp) _ | refine Gr.alloc ?_ _ | refine Gr.drewN ?_ _ | refine Gr.drew ?_)
  · have E := Lib.hid (show thE x1 y1 x2 y2 = 0 by unfold thE; rw [p1, p2]; simp [hx])
    have F := Lib.hid (show ∀ N, okE (thE x1 y1 x2 y2) N = N from fun N => by rw [E.out]; rfl)
    rw [F.out, F.out, F.out, E.out]
    have C3 := Lib.hid (fun w' => refthrough_any x1 y1 x2 y2 w' (inPB_iff.1 p1) (inPB_iff.1 p2) hx)
    rw [p1] at C1
    rw [p2] at C2
    have d1 : (x1 == x2) = false := by simpa using hx
    clear p1 p2 E F hx
    generalize thA x1 y1 x2 y2 = A at *
    generalize thB x1 y1 x2 y2 = B at *
    generalize thD x1 y1 x2 y2 = D at *
    go_enter Try.func55, Try.ntmps55
    go_wp2_with (first | (go_at_call 56; (with_reducible refine (C1.out _).mono ?_); rintro e w1 ⟨rfl, g1⟩; have G1 := Lib.hid g1; obtain ⟨m0, m1, _, _⟩ := B2.out.gr g1; obtain ⟨n0, n1, _, _⟩ := B3.out.gr g1; obtain ⟨k0, k1, k2, k3, k4, k5⟩ := B4.out.gr g1; clear g1) | (go_at_call 56; (with_reducible refine (C2.out _).mono ?_); rintro e w2 ⟨rfl, g2⟩; have G2 := Lib.hid (G1.out.trans g2); obtain ⟨m0, m1, _, _⟩ := B2.out.gr G2.out; obtain ⟨n0, n1, _, _⟩ := B3.out.gr G2.out; obtain ⟨k0, k1, k2, k3, k4, k5⟩ := B4.out.gr G2.out; clear g2) | (go_at_call 61; (with_reducible refine (C3.out _).mono ?_); rintro e w3 ⟨rfl, g3⟩; have G3 := Lib.hid (G2.out.trans g3); obtain ⟨k0, k1, k2, k3, k4, k5⟩ := B4.out.gr G3.out; clear g3))
    obtain ⟨z0, z1, z2, _⟩ := Box3.put (show Box3 w3 (w.heap.size + 1 + 1) 0 0 0 from ⟨k0, k1, k2, k3, k4, k5⟩) (A) (B) (D)
    refine bodyPost_ret (v := .tuple #[.agg #[.int .i64 (A), .int .i64 (B), .int .i64 (D)], .int .i64 0]) (by simp [results, Try.results55, go_sem, z0, z1, z2]) rfl ⟨rfl, ?_⟩
    repeat (first | exact G0.out.trans G3.out | refine Gr.setCell ?_ (by simp; omega) _ | refine Gr.setCell ?_ (by simp) _ | refine Gr.alloc ?_ _ | refine Gr.drewN ?_ _ | refine Gr.drew ?_)

/-- The low 32 bits of a number. -/
theorem and32 (s : Int) : bits .and .i64 s 4294967295 = s % 4294967296 := by
  show IntKind.i64.wrap ((BitVec.ofInt 64 s &&& BitVec.ofInt 64 ((4294967295 : Nat) : Int)).toNat : Int) = _
  rw [BitVec.toNat_and, BitVec.ofInt_natCast, BitVec.toNat_ofNat, Nat.mod_eq_of_lt (by omega : 4294967295 < 2 ^ 64), show (4294967295 : Nat) = 2 ^ 32 - 1 from rfl, Nat.and_two_pow_sub_one_eq_mod, BitVec.toNat_ofInt]
  have h : ((((s % ((2 ^ 64 : Nat) : Int)).toNat % 2 ^ 32 : Nat)) : Int) = s % 4294967296 := by
    have h0 : 0 ≤ s % ((2 ^ 64 : Nat) : Int) := Int.emod_nonneg _ (by decide)
    rw [Int.natCast_emod, Int.toNat_of_nonneg h0]
    exact Int.emod_emod_of_dvd s (⟨4294967296, rfl⟩)
  rw [h]
  have a := Int.emod_nonneg s (show (4294967296 : Int) ≠ 0 by decide)
  have b := Int.emod_lt_of_pos s (show (0 : Int) < 4294967296 by decide)
  exact IntWalk.i64_in _ (by omega)
def upZ (x y s u : Int) : Int := y + (s * x + u)
/-- A number, told if it is in range. -/
def RetZ (z : Int) (w : World) (e : Ending) (w' : World) : Prop := ∃ v, e = .returned (.tuple #[.int .i64 v, .bool (btw (-1000) z 1000)]) ∧ (btw (-1000) z 1000 = true → v = z) ∧ Gr w w'

set_option maxHeartbeats 1000000 in
theorem exact_any (x y s u : Int) (w : World) (hp : InP x y) (hs : -9223372036854775808 ≤ s ∧ s ≤ 9223372036854775807) (hu : -9223372036854775808 ≤ u ∧ u ≤ 9223372036854775807) :
    Calls Try.prog 101 #[.agg #[.int .i64 x, .int .i64 y], .int .i64 s, .int .i64 u] w (RetZ (upZ x y s u) w) := by
  unfold InP at hp
  have G0 := Lib.hid ((Gr.refl w).alloc (.cells #[.int .i64 x, .int .i64 y] 56))
  have a1 := and32 s
  have a2 := and32 u
  obtain ⟨sh, hsh⟩ : ∃ h, s / 4294967296 = h := ⟨_, rfl⟩
  obtain ⟨sl, hsl⟩ : ∃ h, s % 4294967296 = h := ⟨_, rfl⟩
  obtain ⟨uh, huh⟩ : ∃ h, u / 4294967296 = h := ⟨_, rfl⟩
  obtain ⟨ul, hul⟩ : ∃ h, u % 4294967296 = h := ⟨_, rfl⟩
  rw [hsl] at a1
  rw [hul] at a2
  have bs : s = 4294967296 * sh + sl ∧ 0 ≤ sl ∧ sl ≤ 4294967295 := by omega
  have bu : u = 4294967296 * uh + ul ∧ 0 ≤ ul ∧ ul ≤ 4294967295 := by omega
  have bh : -2147483648 ≤ sh ∧ sh ≤ 2147483647 := by omega
  have bk : -2147483648 ≤ uh ∧ uh ≤ 2147483647 := by omega
  have m1 := mul_bd (a := sh) (b := x) (A := 2147483648) (B := 100) (by omega) (by omega) (by omega) (by omega)
  have m2 := mul_bd (a := sl) (b := x) (A := 4294967296) (B := 100) (by omega) (by omega) (by omega) (by omega)
  have ez : upZ x y s u = 4294967296 * (sh * x + uh) + (sl * x + ul + y) := by
    unfold upZ
    rw [bs.1, bu.1]
    grind
  obtain ⟨p1, hp1⟩ : ∃ p, sh * x = p := ⟨_, rfl⟩
  obtain ⟨p2, hp2⟩ : ∃ p, sl * x = p := ⟨_, rfl⟩
  rw [hp1] at m1 ez
  rw [hp2] at m2 ez
  have w1 : IntKind.i64.wrap (sh * x) = p1 := by rw [hp1]; exact IntWalk.i64_in _ (by omega)
  have w2 : IntKind.i64.wrap (sl * x) = p2 := by rw [hp2]; exact IntWalk.i64_in _ (by omega)
  have w3 : IntKind.i64.wrap (p1 + uh) = p1 + uh := IntWalk.i64_in _ (by omega)
  have w4 : IntKind.i64.wrap (p2 + ul) = p2 + ul := IntWalk.i64_in _ (by omega)
  obtain ⟨lo, hlo⟩ : ∃ l, p2 + ul + y = l := ⟨_, rfl⟩
  have w5 : IntKind.i64.wrap (p2 + ul + y) = lo := by rw [hlo]; exact IntWalk.i64_in _ (by omega)
  have a3 := and32 lo
  obtain ⟨lh, hlh⟩ : ∃ h, lo / 4294967296 = h := ⟨_, rfl⟩
  obtain ⟨ll, hll⟩ : ∃ h, lo % 4294967296 = h := ⟨_, rfl⟩
  rw [hll] at a3
  have bl : lo = 4294967296 * lh + ll ∧ 0 ≤ ll ∧ ll ≤ 4294967295 := by omega
  have bm : -1000 ≤ lh ∧ lh ≤ 1000 := by omega
  obtain ⟨hi, hhi⟩ : ∃ h, p1 + uh + lh = h := ⟨_, rfl⟩
  have w6 : IntKind.i64.wrap (p1 + uh + lh) = hi := by rw [hhi]; exact IntWalk.i64_in _ (by omega)
  have w7 : IntKind.i64.wrap (ll - 4294967296) = ll - 4294967296 := IntWalk.i64_in _ (by omega)
  have ez2 : upZ x y s u = 4294967296 * hi + ll := by rw [ez, ← hhi]; omega
  have EZ := Lib.hid ez2
  clear ez ez2 hp1 hp2 hlo hhi hsl hul hll m1 m2 bs bu bh bk bm
  generalize upZ x y s u = z at *
  by_cases h0 : hi = 0
  · have EB := Lib.hid (show decide (ll ≤ 1000) = btw (-1000) z 1000 by
      have := EZ.out
      cases hb : btw (-1000) z 1000 with
      | true => have := btw_true.1 hb; simp; omega
      | false =>
        simp
        rcases Int.lt_or_le 1000 ll with h | h
        · exact h
        · rw [btw_true.2 (show -1000 ≤ z ∧ z ≤ 1000 by omega)] at hb; cases hb)
    have EV := Lib.hid (show ll = z by have := EZ.out; omega)
    subst h0
    clear bl EZ
    go_enter Try.func101, Try.ntmps101
    go_wp2_with fail
    go_ret2
    rw [EB.out]
    exact ⟨ll, rfl, fun _ => EV.out, G0.out⟩
  by_cases h1 : hi = -1
  · have EB := Lib.hid (show decide (-1000 ≤ ll - 4294967296) = btw (-1000) z 1000 by
      have := EZ.out
      cases hb : btw (-1000) z 1000 with
      | true => have := btw_true.1 hb; simp; omega
      | false =>
        simp
        rcases Int.lt_or_le (ll - 4294967296) (-1000) with h | h
        · exact h
        · rw [btw_true.2 (show -1000 ≤ z ∧ z ≤ 1000 by omega)] at hb; cases hb)
    have EV := Lib.hid (show ll - 4294967296 = z by have := EZ.out; omega)
    subst h1
    clear bl EZ h0
    go_enter Try.func101, Try.ntmps101
    go_wp2_with fail
    go_ret2
    rw [EB.out]
    exact ⟨ll - 4294967296, rfl, fun _ => EV.out, G0.out⟩
  · have EB := Lib.hid (show false = btw (-1000) z 1000 by
      have := EZ.out
      cases hb : btw (-1000) z 1000 with
      | true => have := btw_true.1 hb; omega
      | false => rfl)
    have e0 : (hi == 0) = false := by simpa using h0
    have e1 : (hi == -1) = false := by simpa using h1
    clear bl EZ h0 h1
    go_enter Try.func101, Try.ntmps101
    go_wp2_with fail
    go_ret2
    rw [EB.out]
    exact ⟨0, rfl, fun h => (by rw [← EB.out] at h; cases h), G0.out⟩

set_option maxHeartbeats 1000000 in
theorem raised_any (x y s u : Int) (w : World) (hp : InP x y) (hs : -9223372036854775808 ≤ s ∧ s ≤ 9223372036854775807) (hu : -9223372036854775808 ≤ u ∧ u ≤ 9223372036854775807) :
    Calls Try.prog 86 #[.agg #[.int .i64 x, .int .i64 y], .int .i64 s, .int .i64 u] w (RetZ (upZ x y s u) w) := by
  have G0 := Lib.hid ((Gr.refl w).alloc (.cells #[.int .i64 x, .int .i64 y] 56))
  have CE := Lib.hid (exact_any x y s u (w.alloc (.cells #[.int .i64 x, .int .i64 y] 56)) hp hs hu)
  unfold InP at hp
  by_cases b1 : s < -1099511627776
  · clear hp hs hu
    generalize upZ x y s u = z at *
    go_enter Try.func86, Try.ntmps86
    go_wp2_with (go_at_call 101; (with_reducible refine CE.out.mono ?_); rintro e w1 ⟨v, rfl, hv, g1⟩; have HV := Lib.hid hv; have G1 := Lib.hid g1; clear hv g1)
    go_ret2
    exact ⟨v, rfl, HV.out, G0.out.trans G1.out⟩
  by_cases b2 : 1099511627776 < s
  · clear hp hs hu
    generalize upZ x y s u = z at *
    go_enter Try.func86, Try.ntmps86
    go_wp2_with (go_at_call 101; (with_reducible refine CE.out.mono ?_); rintro e w1 ⟨v, rfl, hv, g1⟩; have HV := Lib.hid hv; have G1 := Lib.hid g1; clear hv g1)
    go_ret2
    exact ⟨v, rfl, HV.out, G0.out.trans G1.out⟩
  by_cases b3 : u < -1099511627776
  · clear hp hs hu
    generalize upZ x y s u = z at *
    go_enter Try.func86, Try.ntmps86
    go_wp2_with (go_at_call 101; (with_reducible refine CE.out.mono ?_); rintro e w1 ⟨v, rfl, hv, g1⟩; have HV := Lib.hid hv; have G1 := Lib.hid g1; clear hv g1)
    go_ret2
    exact ⟨v, rfl, HV.out, G0.out.trans G1.out⟩
  by_cases b4 : 1099511627776 < u
  · clear hp hs hu
    generalize upZ x y s u = z at *
    go_enter Try.func86, Try.ntmps86
    go_wp2_with (go_at_call 101; (with_reducible refine CE.out.mono ?_); rintro e w1 ⟨v, rfl, hv, g1⟩; have HV := Lib.hid hv; have G1 := Lib.hid g1; clear hv g1)
    go_ret2
    exact ⟨v, rfl, HV.out, G0.out.trans G1.out⟩
  have m1 := mul_bd (a := s) (b := x) (A := 1099511627776) (B := 100) (by omega) (by omega) (by omega) (by omega)
  have ez : upZ x y s u = y + s * x + u := by unfold upZ; omega
  obtain ⟨p1, hp1⟩ : ∃ p, s * x = p := ⟨_, rfl⟩
  rw [hp1] at m1 ez
  have w1 : IntKind.i64.wrap (s * x) = p1 := by rw [hp1]; exact IntWalk.i64_in _ (by omega)
  have w2 : IntKind.i64.wrap (y + p1) = y + p1 := IntWalk.i64_in _ (by omega)
  have w3 : IntKind.i64.wrap (y + p1 + u) = upZ x y s u := by rw [ez]; exact IntWalk.i64_in _ (by omega)
  clear CE hp1 ez
  generalize upZ x y s u = z at *
  by_cases c1 : -1000 ≤ z
  · have EB := Lib.hid (show decide (z ≤ 1000) = btw (-1000) z 1000 by unfold btw; rw [decide_eq_true c1, Bool.true_and])
    go_enter Try.func86, Try.ntmps86
    go_wp2_with fail
    go_ret2
    rw [EB.out]
    exact ⟨z, rfl, fun _ => rfl, G0.out⟩
  · have EB := Lib.hid (show false = btw (-1000) z 1000 by unfold btw; rw [decide_eq_false c1, Bool.false_and])
    go_enter Try.func86, Try.ntmps86
    go_wp2_with fail
    go_ret2
    rw [EB.out]
    exact ⟨z, rfl, fun _ => rfl, G0.out⟩

set_option maxRecDepth 100000 in
set_option maxHeartbeats 2000000 in
theorem refRaised_any (a : Option Addr) (n c : Nat) (X Y : Nat → Int) (s u : Int) (w : World) (hn : n ≤ 1000) (hs : -9223372036854775808 ≤ s ∧ s ≤ 9223372036854775807) (hu : -9223372036854775808 ≤ u ∧ u ≤ 9223372036854775807) (hr : RdM w a n X Y) :
    Calls Try.prog 52 #[.slice a n c, .int .i64 s, .int .i64 u] w (RetMs (okM (raE n X Y s u) (pairs n X (rz X Y s u))) (raE n X Y s u) w) := by
  have CV := Lib.hid (refValid_any a n c X Y w hn hr)
  cases hv : vP n X Y with
  | false =>
    rw [hv] at CV
    have E := Lib.hid (show raE n X Y s u = 50 by unfold raE; rw [hv]; rfl)
    rw [E.out, show okM 50 (pairs n X (rz X Y s u)) = [] from rfl]
    clear hv hr
    go_enter Try.func52, Try.ntmps52
    go_wp2_with (go_at_call 29; (with_reducible refine CV.out.mono ?_); rintro e w1 ⟨rfl, g1⟩; have G1 := Lib.hid g1; clear g1)
    exact bodyPost_ret (v := .tuple #[.slice none 0 0, .int .i64 50]) (by simp [results, Try.results52, go_sem]) rfl ((OwnM.nil' G1.out 56).ret 50)
  | true =>
  rw [hv] at CV
  have V := Lib.hid (vP_iff.1 hv)
  have ER := Lib.hid (show raE n X Y s u = if raB n X Y s u then 0 else 2 by unfold raE; rw [hv]; rfl)
  clear hv
  have n12 := V.out.few
  have HR := Lib.hid hr
  have EY := Lib.hid (fun h : raB n X Y s u = true => show raE n X Y s u = 0 by rw [ER.out, h]; rfl)
  have EN := Lib.hid (fun h : raB n X Y s u = false => show raE n X Y s u = 2 by rw [ER.out, h]; rfl)
  have RN := Lib.hid (fun k (hk : k < n) h => raB_no (n := n) (k := k) (X := X) (Y := Y) (s := s) (u := u) hk h)
  have RI := Lib.hid (raB_iff (n := n) (X := X) (Y := Y) (s := s) (u := u))
  generalize raE n X Y s u = re at *
  generalize raB n X Y s u = rb at *
  clear ER hr
  go_enter Try.func52, Try.ntmps52
  go_wp2_with (go_at_call 29; (with_reducible refine CV.out.mono ?_); rintro e w1 ⟨rfl, g1⟩; have G1 := Lib.hid g1; clear g1)
  go_loopw [8, 18] (fun so sk wr => ∃ k : Nat, k ≤ n ∧ sk = .int .i64 k ∧ Hid (∀ j, j < k → InP (X j) (rz X Y s u j)) ∧ OwnM w 56 wr so (pairs k X (rz X Y s u))) (fun _ sk _ => n - (intOf sk).toNat)
  case atStart => exact ⟨0, Nat.zero_le _, rfl, Lib.hid (fun j h => by omega), OwnM.nil' G1.out 56⟩
  case round =>
    obtain ⟨k, hk, rfl, HI, hown⟩ := hrel
    have hg := hown.2
    by_cases hlt : k < n
    · obtain ⟨b, o, ea, hc⟩ := (HR.out.gr hg).at hlt
      subst ea
      obtain ⟨c1, c2⟩ := hc k hlt
      have i1 : (k : Int) < n := by omega
      have RB := V.out.ok k hlt
      have PS := Lib.hid (pairs_succ k X (rz X Y s u))
      have hl : (pairs k X (rz X Y s u)).length < 1000000000 := by rw [pairs_length]; omega
      have CR := Lib.hid (fun w' => show Calls Try.prog 86 #[.agg #[.int .i64 (X k), .int .i64 (Y k)], .int .i64 s, .int .i64 u] w' (RetZ (rz X Y s u k) w') from raised_any (X k) (Y k) s u w' RB hs hu)
      have EI := Lib.hid (show inPB (X k) (rz X Y s u k) = btw (-1000) (rz X Y s u k) 1000 by
        unfold InP at RB
        unfold inPB
        rw [btw_true.2 RB.1, Bool.true_and])
      have HN := Lib.hid (RN.out k hlt)
      have HK := Lib.hid (fun h : inPB (X k) (rz X Y s u k) = true => show ∀ j, j < k + 1 → InP (X j) (rz X Y s u j) from fun j hj => by
        by_cases e : j = k
        · rw [e]; exact inPB_iff.1 h
        · exact HI.out j (by omega))
      rw [EI.out] at HN HK
      unfold RetZ at CR
      clear EI RB
      generalize btw (-1000) (rz X Y s u k) 1000 = ib at *
      generalize rz X Y s u k = zk at *
      generalize X k = xk at *
      generalize Y k = yk at *
      generalize pairs k X (rz X Y s u) = L at *
      clear hc
      have HO := Lib.hid hown
      clear hown hg
      have GP := Lib.hid (show Gr wr (wr.alloc (.cells #[.int .i64 xk, .int .i64 yk] 56)) from (Gr.refl wr).alloc _)
      have BP := Lib.hid (show Box2 (wr.alloc (.cells #[.int .i64 xk, .int .i64 yk] 56)) wr.heap.size xk yk from Box2.new rfl)
      cases ib with
      | false =>
        have E := Lib.hid (EN.out (HN.out rfl))
        go_wp2_with (go_at_call 86; (with_reducible refine (CR.out _).mono ?_); rintro e w2 ⟨v, rfl, _, g2⟩; have G2 := Lib.hid g2; clear g2)
        rw [E.out, show okM 2 (pairs n X (rz X Y s u)) = [] from rfl]
        exact bodyPost_ret (v := .tuple #[.slice none 0 0, .int .i64 2]) (by simp [results, Try.results52, go_sem]) rfl ((OwnM.nil' ((HO.out.2.trans GP.out).trans G2.out) 56).ret 2)
      | true =>
        have HK2 := Lib.hid (HK.out rfl)
        clear HK
        go_wp2_with (first
          | (go_at_call 86; (with_reducible refine (CR.out _).mono ?_); rintro e w2 ⟨v, rfl, hv, g2⟩; obtain rfl := hv rfl; have G2 := Lib.hid g2; have O2 := Lib.hid ((HO.out.gr GP.out).gr g2); obtain ⟨q0, q1, _, _⟩ := BP.out.gr g2; clear g2)
          | (at_builtin; go_must (refine wpList_app_pair rfl _ _ 22 56 rfl Try.underlying22 Try.info56 _ L rfl (O2.out.alloc _) _ _ _ rfl (cell_new2 _ _ _ _) hl ?_); intro v1 w3 hown2 _))
        rw [← PS.out] at hown2
        go_roundw
        case rel => exact ⟨k + 1, by omega, by go_num, HK2, hown2⟩
        case measure => simp [intOf]; omega
    · obtain rfl : k = n := by omega
      have E := Lib.hid (EY.out (RI.out.2 HI.out))
      go_wp2_with fail
      obtain ⟨a1, c1, rfl, h1, h2, h3⟩ := hown.rd
      rw [E.out, show okM 0 (pairs k X (rz X Y s u)) = pairs k X (rz X Y s u) from rfl]
      exact bodyPost_ret (v := .tuple #[.slice a1 (pairs k X (rz X Y s u)).length c1, .int .i64 0]) (by simp [results, Try.results52, go_sem]) rfl ⟨a1, c1, rfl, h1, h2, h3, hown.2⟩

end Go.Proofs.Ytbhndfnfohoidaa
