/- Contracts of chapter 5: turned and raised points, of the program. -/
import Derived.Test.YtbhndfnfohoidaaPH
import Derived.Test.YtbhndfnfohoidaaW19
import Derived.Test.YtbhndfnfohoidaaW24
namespace Go.Proofs.Ytbhndfnfohoidaa
open Go.RowKit Go.Firn

theorem Try.info56 : (Try.prog.info? 56).map (fun i => (i.zero, i.size, i.bytes)) = some (some (.agg #[.int .i64 0, .int .i64 0]), 2, 16) := by kernel_rfl
theorem cell_new2s (w : World) (o : Obj) (p q : Int) (e : TypeId) : ((w.alloc o).alloc (.cells #[.int .i64 p, .int .i64 q] e)).cell? ⟨w.heap.size + 1, 0, none⟩ = some (.int .i64 p) ∧ ((w.alloc o).alloc (.cells #[.int .i64 p, .int .i64 q] e)).cell? ⟨w.heap.size + 1, 1, none⟩ = some (.int .i64 q) := by
  have := cell_new2 (w.alloc o) p q e
  rwa [World.size_alloc] at this
def ng (X : Nat → Int) (j : Nat) : Int := -X j
def vE (n : Nat) (X Y : Nat → Int) : Int := if vP n X Y then 0 else 50

set_option maxRecDepth 100000 in
set_option maxHeartbeats 2000000 in
theorem Turned_any (a : Option Addr) (n c : Nat) (X Y : Nat → Int) (w : World) (hn : n ≤ 1000) (hr : RdM w a n X Y) :
    Calls Try.prog 48 #[.slice a n c] w (RetMs (okM (vE n X Y) (pairs n (ng X) Y)) (vE n X Y) w) := by
  have CV := Lib.hid (Valid_any a n c X Y w hn hr)
  cases hv : vP n X Y with
  | false =>
    rw [hv] at CV
    have E := Lib.hid (show vE n X Y = 50 by unfold vE; rw [hv]; rfl)
    rw [E.out, show okM 50 (pairs n (ng X) Y) = [] from rfl]
    clear hv hr
    go_enter Try.func48, Try.ntmps48
    go_wp2_with (go_at_call 28; (with_reducible refine CV.out.mono ?_); rintro e w1 ⟨rfl, g1⟩; have G1 := Lib.hid g1; clear g1)
    exact bodyPost_ret (v := .tuple #[.slice none 0 0, .int .i64 50]) (by simp [results, Try.results48, go_sem]) rfl ((OwnM.nil' G1.out 56).ret 50)
  | true =>
    rw [hv] at CV
    have V := Lib.hid (vP_iff.1 hv)
    have E := Lib.hid (show vE n X Y = 0 by unfold vE; rw [hv]; rfl)
    rw [E.out, show okM 0 (pairs n (ng X) Y) = pairs n (ng X) Y from rfl]
    have n12 := V.out.few
    have HR := Lib.hid hr
    clear hv hr
    go_enter Try.func48, Try.ntmps48
    go_wp2_with (go_at_call 28; (with_reducible refine CV.out.mono ?_); rintro e w1 ⟨rfl, g1⟩; have G1 := Lib.hid g1; clear g1)
    go_loopw [4, 12] (fun so sk wr => ∃ k : Nat, k ≤ n ∧ sk = .int .i64 k ∧ OwnM w 56 wr so (pairs k (ng X) Y)) (fun _ sk _ => n - (intOf sk).toNat)
    case atStart => exact ⟨0, Nat.zero_le _, rfl, OwnM.nil' G1.out 56⟩
    case round =>
      obtain ⟨k, hk, rfl, hown⟩ := hrel
      have hg := hown.2
      by_cases hlt : k < n
      · obtain ⟨b, o, ea, hc⟩ := (HR.out.gr hg).at hlt
        subst ea
        obtain ⟨c1, c2⟩ := hc k hlt
        have i1 : (k : Int) < n := by omega
        have RB := V.out.ok k hlt
        unfold InP at RB
        have PS := Lib.hid (pairs_succ k (ng X) Y)
        have hl : (pairs k (ng X) Y).length < 1000000000 := by rw [pairs_length]; omega
        have w1' : IntKind.i64.wrap (-X k) = ng X k := IntWalk.i64_in _ (by omega)
        generalize ng X k = nk at *
        generalize X k = xk at *
        generalize Y k = yk at *
        generalize pairs k (ng X) Y = L at *
        clear hc RB
        have HO := Lib.hid hown
        clear hown hg
        go_wp2_with (at_builtin; go_must (refine wpList_app_pair rfl _ _ 22 56 rfl Try.underlying22 Try.info56 _ L rfl ((HO.out.alloc _).alloc _) _ _ _ rfl (cell_new2s _ _ _ _ _) hl ?_); intro v1 w2 hown2 _)
        rw [← PS.out] at hown2
        go_roundw
        case rel => exact ⟨k + 1, by omega, by go_num, hown2⟩
        case measure => simp [intOf]; omega
      · obtain rfl : k = n := by omega
        go_wp2_with fail
        obtain ⟨a1, c1, rfl, h1, h2, h3⟩ := hown.rd
        exact bodyPost_ret (v := .tuple #[.slice a1 (pairs k (ng X) Y).length c1, .int .i64 0]) (by simp [results, Try.results48, go_sem]) rfl ⟨a1, c1, rfl, h1, h2, h3, hown.2⟩

def raE (n : Nat) (X Y : Nat → Int) (s u : Int) : Int := if vP n X Y then (if raB n X Y s u then 0 else 2) else 50

set_option maxRecDepth 100000 in
set_option maxHeartbeats 2000000 in
theorem Raised_any (a : Option Addr) (n c : Nat) (X Y : Nat → Int) (s u : Int) (w : World) (hn : n ≤ 1000) (hr : RdM w a n X Y) :
    Calls Try.prog 49 #[.slice a n c, .int .i64 s, .int .i64 u] w (RetMs (okM (raE n X Y s u) (pairs n X (rz X Y s u))) (raE n X Y s u) w) := by
  have CV := Lib.hid (Valid_any a n c X Y w hn hr)
  cases hv : vP n X Y with
  | false =>
    rw [hv] at CV
    have E := Lib.hid (show raE n X Y s u = 50 by unfold raE; rw [hv]; rfl)
    rw [E.out, show okM 50 (pairs n X (rz X Y s u)) = [] from rfl]
    clear hv hr
    go_enter Try.func49, Try.ntmps49
    go_wp2_with (go_at_call 28; (with_reducible refine CV.out.mono ?_); rintro e w1 ⟨rfl, g1⟩; have G1 := Lib.hid g1; clear g1)
    exact bodyPost_ret (v := .tuple #[.slice none 0 0, .int .i64 50]) (by simp [results, Try.results49, go_sem]) rfl ((OwnM.nil' G1.out 56).ret 50)
  | true =>
  rw [hv] at CV
  have V := Lib.hid (vP_iff.1 hv)
  have ER := Lib.hid (show raE n X Y s u = if raB n X Y s u then 0 else 2 by unfold raE; rw [hv]; rfl)
  clear hv
  cases h1 : btw (-202000) s 202000 with
  | false =>
    have E := Lib.hid (show raE n X Y s u = 2 by
      rw [ER.out, if_neg]
      intro h
      have := raB_small V.out h
      have := btw_true.2 (show -202000 ≤ s ∧ s ≤ 202000 by omega)
      rw [h1] at this
      cases this)
    rw [E.out, show okM 2 (pairs n X (rz X Y s u)) = [] from rfl]
    have H1 := Lib.hid h1
    clear h1 hr
    go_enter Try.func49, Try.ntmps49
    go_wp2_with (first
      | (go_at_call 28; (with_reducible refine CV.out.mono ?_); rintro e w1 ⟨rfl, g1⟩; have G1 := Lib.hid g1; clear g1)
      | (go_at_call 70; (with_reducible refine (between_any (-202000) s 202000 _).mono ?_); rintro e w2 ⟨rfl, rfl⟩; rw [H1.out]))
    exact bodyPost_ret (v := .tuple #[.slice none 0 0, .int .i64 2]) (by simp [results, Try.results49, go_sem]) rfl ((OwnM.nil' G1.out 56).ret 2)
  | true =>
  cases h2 : btw (-20200000) u 20200000 with
  | false =>
    have E := Lib.hid (show raE n X Y s u = 2 by
      rw [ER.out, if_neg]
      intro h
      have := raB_small V.out h
      have := btw_true.2 (show -20200000 ≤ u ∧ u ≤ 20200000 by omega)
      rw [h2] at this
      cases this)
    rw [E.out, show okM 2 (pairs n X (rz X Y s u)) = [] from rfl]
    have H1 := Lib.hid h1
    have H2 := Lib.hid h2
    clear h1 h2 hr
    go_enter Try.func49, Try.ntmps49
    go_wp2_with (first
      | (go_at_call 28; (with_reducible refine CV.out.mono ?_); rintro e w1 ⟨rfl, g1⟩; have G1 := Lib.hid g1; clear g1)
      | (go_at_call 70; (with_reducible refine (between_any (-202000) s 202000 _).mono ?_); rintro e w2 ⟨rfl, rfl⟩; rw [H1.out])
      | (go_at_call 70; (with_reducible refine (between_any (-20200000) u 20200000 _).mono ?_); rintro e w2 ⟨rfl, rfl⟩; rw [H2.out]))
    exact bodyPost_ret (v := .tuple #[.slice none 0 0, .int .i64 2]) (by simp [results, Try.results49, go_sem]) rfl ((OwnM.nil' G1.out 56).ret 2)
  | true =>
  obtain ⟨s1, s2⟩ := btw_true.1 h1
  obtain ⟨u1, u2⟩ := btw_true.1 h2
  have n12 := V.out.few
  have HR := Lib.hid hr
  have H1 := Lib.hid h1
  have H2 := Lib.hid h2
  have EY := Lib.hid (fun h : raB n X Y s u = true => show raE n X Y s u = 0 by rw [ER.out, h]; rfl)
  have EN := Lib.hid (fun h : raB n X Y s u = false => show raE n X Y s u = 2 by rw [ER.out, h]; rfl)
  have RN := Lib.hid (fun k (hk : k < n) h => raB_no (n := n) (k := k) (X := X) (Y := Y) (s := s) (u := u) hk h)
  have RI := Lib.hid (raB_iff (n := n) (X := X) (Y := Y) (s := s) (u := u))
  generalize raE n X Y s u = re at *
  generalize raB n X Y s u = rb at *
  clear ER
  clear h1 h2 hr
  go_enter Try.func49, Try.ntmps49
  go_wp2_with (first
    | (go_at_call 28; (with_reducible refine CV.out.mono ?_); rintro e w1 ⟨rfl, g1⟩; have G1 := Lib.hid g1; clear g1)
    | (go_at_call 70; (with_reducible refine (between_any (-202000) s 202000 _).mono ?_); rintro e w2 ⟨rfl, rfl⟩; rw [H1.out])
    | (go_at_call 70; (with_reducible refine (between_any (-20200000) u 20200000 _).mono ?_); rintro e w2 ⟨rfl, rfl⟩; rw [H2.out]))
  go_loopw [8, 24] (fun so sk wr => ∃ k : Nat, k ≤ n ∧ sk = .int .i64 k ∧ Hid (∀ j, j < k → InP (X j) (rz X Y s u j)) ∧ OwnM w 56 wr so (pairs k X (rz X Y s u))) (fun _ sk _ => n - (intOf sk).toNat)
  case atStart => exact ⟨0, Nat.zero_le _, rfl, Lib.hid (fun j h => by omega), OwnM.nil' G1.out 56⟩
  case round =>
    obtain ⟨k, hk, rfl, HI, hown⟩ := hrel
    have hg := hown.2
    by_cases hlt : k < n
    · obtain ⟨b, o, ea, hc⟩ := (HR.out.gr hg).at hlt
      subst ea
      obtain ⟨c1, c2⟩ := hc k hlt
      have i1 : (k : Int) < n := by omega
      have RB := V.out.ok k hlt
      unfold InP at RB
      have PS := Lib.hid (pairs_succ k X (rz X Y s u))
      have hl : (pairs k X (rz X Y s u)).length < 1000000000 := by rw [pairs_length]; omega
      have mb := mul_bd (a := s) (b := X k) (A := 202000) (B := 100) s1 s2 (by omega) (by omega)
      have w1' : IntKind.i64.wrap (s * X k) = s * X k := IntWalk.i64_in _ (by omega)
      have w2' : IntKind.i64.wrap (s * X k + u) = s * X k + u := IntWalk.i64_in _ (by omega)
      have w3' : IntKind.i64.wrap (Y k + (s * X k + u)) = rz X Y s u k := IntWalk.i64_in _ (by omega)
      have CI := Lib.hid (fun w' => isPoint_any (X k) (rz X Y s u k) w')
      have HN := Lib.hid (RN.out k hlt)
      have HK := Lib.hid (fun h : inPB (X k) (rz X Y s u k) = true => show ∀ j, j < k + 1 → InP (X j) (rz X Y s u j) from fun j hj => by
        by_cases e : j = k
        · rw [e]; exact inPB_iff.1 h
        · exact HI.out j (by omega))
      generalize inPB (X k) (rz X Y s u k) = ib at *
      generalize rz X Y s u k = zk at *
      generalize X k = xk at *
      generalize Y k = yk at *
      generalize pairs k X (rz X Y s u) = L at *
      clear hc RB mb
      have HO := Lib.hid hown
      clear hown hg
      have GP := Lib.hid (show Gr wr (wr.alloc (.cells #[.int .i64 xk, .int .i64 zk] 56)) from (Gr.refl wr).alloc _)
      have BP := Lib.hid (show Box2 (wr.alloc (.cells #[.int .i64 xk, .int .i64 zk] 56)) wr.heap.size xk zk from Box2.new rfl)
      obtain ⟨p0, p1, _, _⟩ := BP.out
      cases ib with
      | false =>
        have E := Lib.hid (EN.out (HN.out rfl))
        go_wp2_with (go_at_call 73; (with_reducible refine (CI.out _).mono ?_); rintro e w2 ⟨rfl, g2⟩; have G2 := Lib.hid g2; clear g2)
        rw [E.out, show okM 2 (pairs n X (rz X Y s u)) = [] from rfl]
        exact bodyPost_ret (v := .tuple #[.slice none 0 0, .int .i64 2]) (by simp [results, Try.results49, go_sem]) rfl ((OwnM.nil' ((HO.out.2.trans GP.out).trans G2.out) 56).ret 2)
      | true =>
        have HK2 := Lib.hid (HK.out rfl)
        clear HK
        go_wp2_with (first
          | (go_at_call 73; (with_reducible refine (CI.out _).mono ?_); rintro e w2 ⟨rfl, g2⟩; have G2 := Lib.hid g2; have O2 := Lib.hid ((HO.out.gr GP.out).gr g2); obtain ⟨q0, q1, _, _⟩ := BP.out.gr g2; clear g2)
          | (at_builtin; go_must (refine wpList_app_pair rfl _ _ 22 56 rfl Try.underlying22 Try.info56 _ L rfl (O2.out.alloc _) _ _ _ rfl (cell_new2 _ _ _ _) hl ?_); intro v1 w3 hown2 _))
        rw [← PS.out] at hown2
        go_roundw
        case rel => exact ⟨k + 1, by omega, by go_num, HK2, hown2⟩
        case measure => simp [intOf]; omega
    · obtain rfl : k = n := by omega
      have E := Lib.hid (EY.out (RI.out.2 HI.out))
      go_wp2_with fail
      obtain ⟨a1, c1, rfl, h1, h2, h3⟩ := hown.rd
      rw [E.out, show okM 0 (pairs k X (rz X Y s u)) = pairs k X (rz X Y s u) from rfl]
      exact bodyPost_ret (v := .tuple #[.slice a1 (pairs k X (rz X Y s u)).length c1, .int .i64 0]) (by simp [results, Try.results49, go_sem]) rfl ⟨a1, c1, rfl, h1, h2, h3, hown.2⟩

end Go.Proofs.Ytbhndfnfohoidaa
