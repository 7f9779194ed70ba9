/- Contracts of chapter 7: the best cut with so much noise at most, of the program and of the reference. Contracts of chapter 7: the best cut of the reference. Contracts of chapter 7: the row, the cut of k and its price, of the program and of the reference. Contracts of chapter 7: the price of a cut, of the program and of the reference. Contracts of chapter 7: the price of a cut of the reference. -/
import Derived.Test.YtohcnicadbpbbaaGreatDoorXG
import Derived.Test.YtohcnicadbpbbaaGreatDoorXS
namespace Go.Proofs.YtohcnicadbpbbaaGreatDoor
open Go.RowKit Go.Firn

/-- A ratio that can be asked as a noise. -/
def noB (A D : Int) : Bool := btw 1 D 1000000 && btw 0 A D
def Noi (A D : Int) : Prop := (1 ≤ D ∧ D ≤ 1000000) ∧ 0 ≤ A ∧ A ≤ D
theorem noB_iff {A D : Int} : noB A D = true ↔ Noi A D := by unfold noB Noi; rw [Bool.and_eq_true, btw_true, btw_true]
/-- The sets that have so much noise at most. -/
def beQ (f : Nat → Int) (n : Nat) (A D : Int) (s : Nat) : Bool := decide (kS f s n * D ≤ A * sm f n)
/-- The best one of them. -/
def beB (f g : Nat → Int) (n : Nat) (A D : Int) : Nat := bestR (beQ f n A D) (fun s => kS g s n) (cS n) (2 ^ n)
theorem kp_cS (f : Nat → Int) (n s : Nat) : kp f (nf (cS n s)) (cS n s).length = kS f s n := by unfold cS kS; rw [kp_onL]
theorem kS_zero (f : Nat → Int) (n : Nat) : kS f 0 n = 0 := by rw [← kp_cS, cS_zero]; rfl
theorem kS_all {n : Nat} {f : Nat → Int} (hv : VW n f) (s : Nat) : 0 ≤ kS f s n ∧ kS f s n ≤ 10000 := by rw [← kp_cS]; exact kp_all2 (cS_cut n s) hv
theorem beQ_zero {f : Nat → Int} {n : Nat} {A D : Int} (hp : Noi A D) (hv : VW n f) : beQ f n A D 0 = true := by
  unfold beQ
  rw [kS_zero, Int.zero_mul]
  exact decide_eq_true (Int.mul_nonneg hp.2.1 (by have := hv.sum; omega))
theorem noi_bd {A D K S : Int} (hp : Noi A D) (hK : 0 ≤ K ∧ K ≤ 10000) (hS : 0 ≤ S ∧ S ≤ 10000) : (0 ≤ K * D ∧ K * D ≤ 10000000000) ∧ 0 ≤ A * S ∧ A * S ≤ 10000000000 := by
  obtain ⟨⟨d1, d2⟩, a1, a2⟩ := hp
  have m1 := Int.mul_nonneg hK.1 (by omega : 0 ≤ D)
  have m2 := Int.mul_le_mul hK.2 d2 (by omega) (by omega)
  have m3 := Int.mul_nonneg a1 hS.1
  have m4 := Int.mul_le_mul (show A ≤ 1000000 by omega) hS.2 hS.1 (by omega)
  omega
/-- The error of odds and a noise. -/
def beE (n m : Nat) (f g : Nat → Int) (A D : Int) : Int := if vO n m f g then (if noB A D then 0 else 2) else 70

set_option maxHeartbeats 2000000 in
theorem Best1_any (a a2 : Option Addr) (n c d b1 b2 b3 : Nat) (f g : Nat → Int) (A D : Int) (w : World) (hr : RdI w a n f) (hv : VO n n f g) (hp : Noi A D) (B1 : BoxO w b1 (.slice a n c) (.slice a2 n d)) (B2 : Box2 w b2 A D) (B3 : Box4 w b3 (.slice a n c) (.slice a2 n d) (.int .i64 (sm f n)) (.int .i64 (sm g n))) (s B : Nat) (av : Value) (hx : LiB w B (cS n s) av) :
    Calls Tryz.prog 40 #[av, .pointer (some ⟨b1, 0, none⟩), .pointer (some ⟨b2, 0, none⟩), .pointer (some ⟨b3, 0, none⟩)] w (RetB (beQ f n A D s) w) := by
  obtain ⟨a3, c3, rfl, _, _, h3⟩ := hx.rd
  obtain ⟨p0, p1⟩ := B1
  obtain ⟨s0, s1, _⟩ := B2
  obtain ⟨r0, r1, r2, r3, _⟩ := B3
  have n10 := hv.noise.few
  have l := cS_len (n := n) s
  have CK := Lib.hid (show ∀ w', Gr w w' → Calls Tryz.prog 41 #[.slice a n c, .slice a3 (cS n s).length c3] w' (fun e w'' => e = .returned (.int .i64 (kS f s n)) ∧ w'' = w') from fun w' k => by
    have h := kept_any a a3 n c (cS n s).length c3 f (nf (cS n s)) w' (by omega) (hr.gr k) (h3.gr k) (fun i hi => by have := hv.noise.ok i hi; omega) (cS_cut n s).ok
    rwa [kp_cS] at h)
  have kb := kS_all hv.noise s
  have sb := sm_le10 hv.noise
  have sp := hv.noise.sum
  have BD := noi_bd hp kb (show 0 ≤ sm f n ∧ sm f n ≤ 10000 by omega)
  have EV := Lib.hid (show beQ f n A D s = decide (kS f s n * D ≤ A * sm f n) from rfl)
  rw [EV.out]
  clear EV hr hv hp hx h3 kb sb sp l
  generalize kS f s n = K at *
  generalize sm f n = S at *
  generalize cS n s = L at *
  obtain ⟨X1, e1⟩ : ∃ X, K * D = X := ⟨_, rfl⟩
  obtain ⟨X2, e2⟩ : ∃ X, A * S = X := ⟨_, rfl⟩
  rw [e1, e2] at BD ⊢
  have q1 : IntKind.i64.wrap (K * D) = X1 := by rw [e1]; exact (wr64 (by omega)).1
  have q2 : IntKind.i64.wrap (A * S) = X2 := by rw [e2]; exact (wr64 (by omega)).1
  clear e1 e2 BD
  go_enter Tryz.func40, Tryz.ntmps40
  go_wp2_with fail
  go_quiet (first | (go_at_call 41; with_reducible exact Calls.quiet_of_same (CK.out _ ((Gr.refl _).drewN _))))
  go_wp2_with fail
  go_ret
  exact ⟨rfl, (Gr.refl _).drewN _⟩

set_option maxHeartbeats 2000000 in
theorem Best2_any (a a2 : Option Addr) (n c d b1 : Nat) (f g : Nat → Int) (w : World) (hs : RdI w a2 n g) (hv : VO n n f g) (B1 : BoxO w b1 (.slice a n c) (.slice a2 n d)) (s B : Nat) (av : Value) (hx : LiB w B (cS n s) av) :
    Calls Tryz.prog 43 #[av, .pointer (some ⟨b1, 0, none⟩)] w fun e w' => e = .returned (.int .i64 (kS g s n)) ∧ Gr w w' := by
  obtain ⟨a3, c3, rfl, _, _, h3⟩ := hx.rd
  obtain ⟨p0, p1⟩ := B1
  have n10 := hv.noise.few
  have l := cS_len (n := n) s
  have CK := Lib.hid (show Calls Tryz.prog 41 #[.slice a2 n d, .slice a3 (cS n s).length c3] w (fun e w'' => e = .returned (.int .i64 (kS g s n)) ∧ w'' = w) from by
    have h := kept_any a2 a3 n d (cS n s).length c3 g (nf (cS n s)) w (by omega) hs h3 (fun i hi => by have := hv.signal.ok i hi; omega) (cS_cut n s).ok
    rwa [kp_cS] at h)
  clear hs hv hx h3 l
  go_enter Tryz.func43, Tryz.ntmps43
  go_wp2_with (go_at_call 41; (with_reducible refine CK.out.mono ?_); rintro e w1 ⟨rfl, rfl⟩)
  go_ret
  exact ⟨rfl, Gr.refl _⟩

set_option maxHeartbeats 2000000 in
theorem Best_no (a a2 : Option Addr) (n c m d : Nat) (f g : Nat → Int) (A D : Int) (w : World) (hn : n ≤ 1000) (hm : m ≤ 1000) (hr : RdI w a n f) (hs : RdI w a2 m g) (hv : vO n m f g = false) :
    Calls Tryz.prog 15 #[.agg #[.slice a n c, .slice a2 m d], .agg #[.int .i64 A, .int .i64 D]] w (RetIs 0 (fun _ => 0) 70 w) := by
  obtain ⟨W0, hW0⟩ : ∃ W0, (w.alloc (.cells #[.slice a n c, .slice a2 m d] 24)).alloc (.cells #[.int .i64 A, .int .i64 D] 28) = W0 := ⟨_, rfl⟩
  have G0 := Lib.hid (show Gr w W0 by rw [← hW0]; exact ((Gr.refl w).alloc _).alloc _)
  have B1 := Lib.hid (show BoxO W0 w.heap.size (.slice a n c) (.slice a2 m d) by rw [← hW0]; exact (BoxO.new rfl).gr ((Gr.refl _).alloc _))
  have B2 := Lib.hid (show Box2 W0 (w.heap.size + 1) A D by rw [← hW0]; exact Box2.new (by simp))
  obtain ⟨p0, p1⟩ := B1.out
  obtain ⟨s0, s1, _⟩ := B2.out
  have C := Lib.hid (newOdds_no a a2 n c m d f g W0 hn hm (hr.gr G0.out) (hs.gr G0.out) hv)
  clear hr hs hv
  go_enter Tryz.func15, Tryz.ntmps15
  go_wp2_with (go_at_call 29; (with_reducible refine C.out.mono ?_); rintro e w1 ⟨rfl, g1⟩; have g1' := g1.alloc (.cells #[.slice none 0 0, .slice none 0 0, .int .i64 0, .int .i64 0] 57); have G1 := Lib.hid (G0.out.trans g1'); clear g1 g1')
  refine bodyPost_ret (v := .tuple #[.slice none 0 0, .int .i64 70]) (by simp [results, Tryz.results15, go_sem]) rfl ⟨none, 0, rfl, Nat.le_refl _, by unfold maxLen; omega, .inl rfl, ?_⟩
  repeat (first | exact G1.out | refine Gr.setCell ?_ (by simp; omega) _ | refine Gr.setCell ?_ (by simp) _ | refine Gr.alloc ?_ _ | refine Gr.drewN ?_ _ | refine Gr.drew ?_)

set_option maxHeartbeats 4000000 in
set_option maxRecDepth 100000 in
theorem Best_bad (a a2 : Option Addr) (n c d : Nat) (f g : Nat → Int) (A D : Int) (w : World) (hr : RdI w a n f) (hs : RdI w a2 n g) (hv : VO n n f g) (hp : noB A D = false) :
    Calls Tryz.prog 15 #[.agg #[.slice a n c, .slice a2 n d], .agg #[.int .i64 A, .int .i64 D]] w (RetIs 0 (fun _ => 0) 2 w) := by
  have n10 := hv.noise.few
  obtain ⟨W0, hW0⟩ : ∃ W0, (w.alloc (.cells #[.slice a n c, .slice a2 n d] 24)).alloc (.cells #[.int .i64 A, .int .i64 D] 28) = W0 := ⟨_, rfl⟩
  have G0 := Lib.hid (show Gr w W0 by rw [← hW0]; exact ((Gr.refl w).alloc _).alloc _)
  have B1 := Lib.hid (show BoxO W0 w.heap.size (.slice a n c) (.slice a2 n d) by rw [← hW0]; exact (BoxO.new rfl).gr ((Gr.refl _).alloc _))
  have B2 := Lib.hid (show Box2 W0 (w.heap.size + 1) A D by rw [← hW0]; exact Box2.new (by simp))
  obtain ⟨p0, p1⟩ := B1.out
  obtain ⟨s0, s1, _⟩ := B2.out
  have C := Lib.hid (newOdds_ok a a2 n c n d f g W0 (by omega) (by omega) (hr.gr G0.out) (hs.gr G0.out) (vO_iff.2 hv))
  clear hr hs hv
  generalize sm f n = sf at *
  generalize sm g n = sg at *
  cases h : btw 1 D 1000000 with
  | false =>
    have H := Lib.hid h
    have C1 := Lib.hid (fun w' => show Calls Tryz.prog 32 #[.int .i64 1, .int .i64 D, .int .i64 1000000] w' fun e w'' => e = .returned (.bool false) ∧ w' = w'' from by rw [← H.out]; exact between_any 1 D 1000000 w')
    clear h hp H
    go_enter Tryz.func15, Tryz.ntmps15
    go_wp2_with (first
      | (go_at_call 29; (with_reducible refine C.out.mono ?_); rintro e w1 ⟨rfl, g1⟩; have g1' := g1.alloc (.cells #[.slice a n c, .slice a2 n d, .int .i64 sf, .int .i64 sg] 57); obtain ⟨W1, hW1⟩ : ∃ W1, w1.alloc (.cells #[.slice a n c, .slice a2 n d, .int .i64 sf, .int .i64 sg] 57) = W1 := ⟨_, rfl⟩; rw [hW1] at g1'; have G1 := Lib.hid (G0.out.trans g1'); have X1 := Lib.hid (show Box4 W1 w1.heap.size (.slice a n c) (.slice a2 n d) (.int .i64 sf) (.int .i64 sg) by rw [← hW1]; exact Box4.new rfl); have P1 := Lib.hid (B2.out.gr g1'); have O1 := Lib.hid (B1.out.gr g1'); clear g1 g1' p0 p1 s0 s1; obtain ⟨p0, p1⟩ := O1.out; obtain ⟨s0, s1, _⟩ := P1.out; obtain ⟨r0, r1, r2, r3, _⟩ := X1.out)
      | (go_at_call 32; (with_reducible refine (C1.out _).mono ?_); rintro e w3 ⟨rfl, rfl⟩))
    refine bodyPost_ret (v := .tuple #[.slice none 0 0, .int .i64 2]) (by simp [results, Tryz.results15, go_sem]) rfl ⟨none, 0, rfl, Nat.le_refl _, by unfold maxLen; omega, .inl rfl, ?_⟩
    repeat (first | exact G1.out | refine Gr.setCell ?_ (by simp; omega) _ | refine Gr.setCell ?_ (by simp) _ | refine Gr.alloc ?_ _ | refine Gr.drewN ?_ _ | refine Gr.drew ?_)
  | true =>
    have H := Lib.hid h
    have H2 := Lib.hid (show btw 0 A D = false by unfold noB at hp; rw [h] at hp; simpa using hp)
    have C1 := Lib.hid (fun w' => show Calls Tryz.prog 32 #[.int .i64 1, .int .i64 D, .int .i64 1000000] w' fun e w'' => e = .returned (.bool true) ∧ w' = w'' from by rw [← H.out]; exact between_any 1 D 1000000 w')
    have C2 := Lib.hid (fun w' => show Calls Tryz.prog 32 #[.int .i64 0, .int .i64 A, .int .i64 D] w' fun e w'' => e = .returned (.bool false) ∧ w' = w'' from by rw [← H2.out]; exact between_any 0 A D w')
    clear h hp H H2
    go_enter Tryz.func15, Tryz.ntmps15
    go_wp2_with (first
      | (go_at_call 29; (with_reducible refine C.out.mono ?_); rintro e w1 ⟨rfl, g1⟩; have g1' := g1.alloc (.cells #[.slice a n c, .slice a2 n d, .int .i64 sf, .int .i64 sg] 57); obtain ⟨W1, hW1⟩ : ∃ W1, w1.alloc (.cells #[.slice a n c, .slice a2 n d, .int .i64 sf, .int .i64 sg] 57) = W1 := ⟨_, rfl⟩; rw [hW1] at g1'; have G1 := Lib.hid (G0.out.trans g1'); have X1 := Lib.hid (show Box4 W1 w1.heap.size (.slice a n c) (.slice a2 n d) (.int .i64 sf) (.int .i64 sg) by rw [← hW1]; exact Box4.new rfl); have P1 := Lib.hid (B2.out.gr g1'); have O1 := Lib.hid (B1.out.gr g1'); clear g1 g1' p0 p1 s0 s1; obtain ⟨p0, p1⟩ := O1.out; obtain ⟨s0, s1, _⟩ := P1.out; obtain ⟨r0, r1, r2, r3, _⟩ := X1.out)
      | (go_at_call 32; (with_reducible refine (C1.out _).mono ?_); rintro e w3 ⟨rfl, rfl⟩)
      | (go_at_call 32; (with_reducible refine (C2.out _).mono ?_); rintro e w3 ⟨rfl, rfl⟩))
    refine bodyPost_ret (v := .tuple #[.slice none 0 0, .int .i64 2]) (by simp [results, Tryz.results15, go_sem]) rfl ⟨none, 0, rfl, Nat.le_refl _, by unfold maxLen; omega, .inl rfl, ?_⟩
    repeat (first | exact G1.out | refine Gr.setCell ?_ (by simp; omega) _ | refine Gr.setCell ?_ (by simp) _ | refine Gr.alloc ?_ _ | refine Gr.drewN ?_ _ | refine Gr.drew ?_)

set_option maxHeartbeats 4000000 in
set_option maxRecDepth 100000 in
theorem Best_ok (a a2 : Option Addr) (n c d : Nat) (f g : Nat → Int) (A D : Int) (w : World) (hr : RdI w a n f) (hs : RdI w a2 n g) (hv : VO n n f g) (hp : Noi A D) (hT : Tab w) :
    Calls Tryz.prog 15 #[.agg #[.slice a n c, .slice a2 n d], .agg #[.int .i64 A, .int .i64 D]] w (RetIs (cS n (beB f g n A D)).length (nf (cS n (beB f g n A D))) 0 w) := by
  have n10 := hv.noise.few
  obtain ⟨W0, hW0⟩ : ∃ W0, (w.alloc (.cells #[.slice a n c, .slice a2 n d] 24)).alloc (.cells #[.int .i64 A, .int .i64 D] 28) = W0 := ⟨_, rfl⟩
  have G0 := Lib.hid (show Gr w W0 by rw [← hW0]; exact ((Gr.refl w).alloc _).alloc _)
  have B1 := Lib.hid (show BoxO W0 w.heap.size (.slice a n c) (.slice a2 n d) by rw [← hW0]; exact (BoxO.new rfl).gr ((Gr.refl _).alloc _))
  have B2 := Lib.hid (show Box2 W0 (w.heap.size + 1) A D by rw [← hW0]; exact Box2.new (by simp))
  obtain ⟨p0, p1⟩ := B1.out
  obtain ⟨s0, s1, _⟩ := B2.out
  have C := Lib.hid (newOdds_ok a a2 n c n d f g W0 (by omega) (by omega) (hr.gr G0.out) (hs.gr G0.out) (vO_iff.2 hv))
  have HB := Lib.hid ((Bool.and_eq_true _ _).mp (noB_iff.2 hp))
  have C1 := Lib.hid (fun w' => show Calls Tryz.prog 32 #[.int .i64 1, .int .i64 D, .int .i64 1000000] w' fun e w'' => e = .returned (.bool true) ∧ w' = w'' from by rw [← HB.out.1]; exact between_any 1 D 1000000 w')
  have C2 := Lib.hid (fun w' => show Calls Tryz.prog 32 #[.int .i64 0, .int .i64 A, .int .i64 D] w' fun e w'' => e = .returned (.bool true) ∧ w' = w'' from by rw [← HB.out.2]; exact between_any 0 A D w')
  have hmf : ∀ (fn : Fn) (first cap : Array Value) (w : World), (Instr.makeFunc fn first cap).run Tryz.prog w = .ok (.func fn first cap) w := fun _ _ _ _ => rfl
  have CB := Lib.hid (show ∀ (b3 : Nat) w', Gr w w' → BoxO w' w.heap.size (.slice a n c) (.slice a2 n d) → Box2 w' (w.heap.size + 1) A D → Box4 w' b3 (.slice a n c) (.slice a2 n d) (.int .i64 (sm f n)) (.int .i64 (sm g n)) → Calls Tryz.prog 42 #[.agg #[.slice a n c, .slice a2 n d, .int .i64 (sm f n), .int .i64 (sm g n)], .func (.func 40) #[] #[.pointer (some ⟨w.heap.size, 0, none⟩), .pointer (some ⟨w.heap.size + 1, 0, none⟩), .pointer (some ⟨b3, 0, none⟩)], .func (.func 43) #[] #[.pointer (some ⟨w.heap.size, 0, none⟩)]] w' fun e w'' => ∃ b, IsBest (2 ^ n) (beQ f n A D) (fun s => kS g s n) (cS n) b ∧ RetC (cS n b) w' e w'' from fun b3 w' k D1 D2 D3 =>
    best_any a a2 n c d (sm f n) (sm g n) n10 40 43 _ _ (beQ f n A D) (fun s => kS g s n) w' (hT.gr k) (enters_of Tryz.func40 (by kernel_rfl) rfl) (enters_of Tryz.func43 (by kernel_rfl) rfl)
      (fun w2 k2 s _ av B hx => Best1_any a a2 n c d _ _ b3 f g A D w2 (hr.gr (k.trans k2)) hv hp (D1.gr k2) (D2.gr k2) (D3.gr k2) s B av hx)
      (fun w2 k2 s _ av B hx => Best2_any a a2 n c d _ f g w2 (hs.gr (k.trans k2)) hv (D1.gr k2) s B av hx) (beQ_zero hp hv.noise))
  have EB := Lib.hid (show ∀ b, IsBest (2 ^ n) (beQ f n A D) (fun s => kS g s n) (cS n) b → beB f g n A D = b from fun b h => (best_eq (n := n) (beQ_zero hp hv.noise) h).symm)
  clear hr hs hv hp hT HB
  generalize sm f n = sf at *
  generalize sm g n = sg at *
  go_enter Tryz.func15, Tryz.ntmps15
  go_wp2_with (first
    | (go_at_call 29; (with_reducible refine C.out.mono ?_); rintro e w1 ⟨rfl, g1⟩; have g1' := g1.alloc (.cells #[.slice a n c, .slice a2 n d, .int .i64 sf, .int .i64 sg] 57); obtain ⟨W1, hW1⟩ : ∃ W1, w1.alloc (.cells #[.slice a n c, .slice a2 n d, .int .i64 sf, .int .i64 sg] 57) = W1 := ⟨_, rfl⟩; rw [hW1] at g1'; have G1 := Lib.hid (G0.out.trans g1'); have X1 := Lib.hid (show Box4 W1 w1.heap.size (.slice a n c) (.slice a2 n d) (.int .i64 sf) (.int .i64 sg) by rw [← hW1]; exact Box4.new rfl); have P1 := Lib.hid (B2.out.gr g1'); have O1 := Lib.hid (B1.out.gr g1'); clear g1 g1' p0 p1 s0 s1; obtain ⟨p0, p1⟩ := O1.out; obtain ⟨s0, s1, _⟩ := P1.out; obtain ⟨r0, r1, r2, r3, _⟩ := X1.out)
    | (go_at_call 32; (with_reducible refine (C1.out _).mono ?_); rintro e w3 ⟨rfl, rfl⟩)
    | (go_at_call 32; (with_reducible refine (C2.out _).mono ?_); rintro e w3 ⟨rfl, rfl⟩)
    | (go_at_call 42; (with_reducible refine (CB.out _ _ G1.out O1.out P1.out X1.out).mono ?_); rintro e w4 ⟨b, hb, av, cv, rfl, l1, l2, l3, g4⟩; have L3 := Lib.hid l3; have HB := Lib.hid hb; have G4 := Lib.hid (G1.out.trans g4); clear g4 l3 hb))
  rw [EB.out b HB.out]
  refine bodyPost_ret (v := .tuple #[.slice av (cS n b).length cv, .int .i64 0]) (by simp [results, Tryz.results15, go_sem]) rfl ⟨av, cv, rfl, l1, l2, L3.out, G4.out⟩

end Go.Proofs.YtohcnicadbpbbaaGreatDoor

namespace Go.Proofs.YtohcnicadbpbbaaGreatDoor
open Go.RowKit Go.Firn

end Go.Proofs.YtohcnicadbpbbaaGreatDoor

namespace Go.Proofs.YtohcnicadbpbbaaGreatDoor
open Go.RowKit Go.Firn

set_option maxHeartbeats 2000000 in
theorem Row_no (a a2 : Option Addr) (n c m d : Nat) (f g : Nat → Int) (w : World) (hn : n ≤ 1000) (hm : m ≤ 1000) (hr : RdI w a n f) (hs : RdI w a2 m g) (hv : vO n m f g = false) :
    Calls Tryz.prog 13 #[.agg #[.slice a n c, .slice a2 m d]] w (RetIs 0 (fun _ => 0) 70 w) := by
  obtain ⟨W0, hW0⟩ : ∃ W0, w.alloc (.cells #[.slice a n c, .slice a2 m d] 24) = W0 := ⟨_, rfl⟩
  have G0 := Lib.hid (show Gr w W0 by rw [← hW0]; exact (Gr.refl w).alloc _)
  have B1 := Lib.hid (show BoxO W0 w.heap.size (.slice a n c) (.slice a2 m d) by rw [← hW0]; exact BoxO.new rfl)
  obtain ⟨p0, p1⟩ := B1.out
  have C := Lib.hid (newOdds_no a a2 n c m d f g W0 hn hm (hr.gr G0.out) (hs.gr G0.out) hv)
  clear hr hs hv
  go_enter Tryz.func13, Tryz.ntmps13
  go_wp2_with (go_at_call 29; (with_reducible refine C.out.mono ?_); rintro e w1 ⟨rfl, g1⟩; have g1' := g1.alloc (.cells #[.slice none 0 0, .slice none 0 0, .int .i64 0, .int .i64 0] 57); have G1 := Lib.hid (G0.out.trans g1'); clear g1 g1')
  refine bodyPost_ret (v := .tuple #[.slice none 0 0, .int .i64 70]) (by simp [results, Tryz.results13, go_sem]) rfl ⟨none, 0, rfl, Nat.le_refl _, by unfold maxLen; omega, .inl rfl, ?_⟩
  repeat (first | exact G1.out | refine Gr.setCell ?_ (by simp; omega) _ | refine Gr.setCell ?_ (by simp) _ | refine Gr.alloc ?_ _ | refine Gr.drewN ?_ _ | refine Gr.drew ?_)

set_option maxHeartbeats 2000000 in
theorem Row_ok (a a2 : Option Addr) (n c d : Nat) (f g : Nat → Int) (w : World) (hr : RdI w a n f) (hs : RdI w a2 n g) (_hf : ∀ i, 0 ≤ f i) (_hg : ∀ i, 0 ≤ g i) (hv : VO n n f g) :
    Calls Tryz.prog 13 #[.agg #[.slice a n c, .slice a2 n d]] w (RetIs n (fun p => (rowN f g n p : Int)) 0 w) := by
  have n10 := hv.noise.few
  have n1 := hv.noise.one
  obtain ⟨W0, hW0⟩ : ∃ W0, w.alloc (.cells #[.slice a n c, .slice a2 n d] 24) = W0 := ⟨_, rfl⟩
  have G0 := Lib.hid (show Gr w W0 by rw [← hW0]; exact (Gr.refl w).alloc _)
  have B1 := Lib.hid (show BoxO W0 w.heap.size (.slice a n c) (.slice a2 n d) by rw [← hW0]; exact BoxO.new rfl)
  obtain ⟨p0, p1⟩ := B1.out
  have C := Lib.hid (newOdds_ok a a2 n c n d f g W0 (by omega) (by omega) (hr.gr G0.out) (hs.gr G0.out) (vO_iff.2 hv))
  have CR := Lib.hid (fun u v w' (k : Gr w w') => row_any a a2 n c d f g u v w' ⟨n1, n10⟩ (hr.gr k) (hs.gr k) hv.noise.ok hv.signal.ok)
  clear hr hs hv _hf _hg
  generalize sm f n = sf at *
  generalize sm g n = sg at *
  generalize (fun p => (rowN f g n p : Int)) = R at *
  go_enter Tryz.func13, Tryz.ntmps13
  go_wp2_with (first
    | (go_at_call 29; (with_reducible refine C.out.mono ?_); rintro e w1 ⟨rfl, g1⟩; have g1' := g1.alloc (.cells #[.slice a n c, .slice a2 n d, .int .i64 sf, .int .i64 sg] 57); obtain ⟨W1, hW1⟩ : ∃ W1, w1.alloc (.cells #[.slice a n c, .slice a2 n d, .int .i64 sf, .int .i64 sg] 57) = W1 := ⟨_, rfl⟩; rw [hW1] at g1'; have G1 := Lib.hid (G0.out.trans g1'); have X1 := Lib.hid (show Box4 W1 w1.heap.size (.slice a n c) (.slice a2 n d) (.int .i64 sf) (.int .i64 sg) by rw [← hW1]; exact Box4.new rfl); have O1 := Lib.hid (B1.out.gr g1'); clear g1 g1' p0 p1; obtain ⟨p0, p1⟩ := O1.out; obtain ⟨r0, r1, r2, r3, _⟩ := X1.out)
    | (go_at_call 35; (with_reducible refine (CR.out _ _ _ G1.out).mono ?_); rintro e w2 ⟨av, cv, rfl, l1, l2, l3, g2⟩; have L3 := Lib.hid l3; have G2 := Lib.hid (G1.out.trans g2); clear g2 l3))
  refine bodyPost_ret (v := .tuple #[.slice av n cv, .int .i64 0]) (by simp [results, Tryz.results13, go_sem]) rfl ⟨av, cv, rfl, l1, l2, L3.out, G2.out⟩

end Go.Proofs.YtohcnicadbpbbaaGreatDoor

namespace Go.Proofs.YtohcnicadbpbbaaGreatDoor
open Go.RowKit Go.Firn

set_option maxHeartbeats 2000000 in
theorem Price_gen (a a2 : Option Addr) (n c m d : Nat) (k : Int) (b1 b2 c5 c6 : Nat) (x y E : Int) (w : World) (hE : E ≠ 0)
    (hC : ∀ w', Gr w w' → Calls Tryz.prog 29 #[.agg #[.slice a n c, .slice a2 m d]] w' (RetO (.slice none b1 b2) (.slice none c5 c6) x y E w')) :
    Calls Tryz.prog 12 #[.agg #[.slice a n c, .slice a2 m d], .int .i64 k] w (RetRE 0 0 E w) := by
  obtain ⟨W0, hW0⟩ : ∃ W0, (w.alloc (.cells #[.slice a n c, .slice a2 m d] 24)).alloc (.cells #[.int .i64 0, .int .i64 0] 28) = W0 := ⟨_, rfl⟩
  have G0 := Lib.hid (show Gr w W0 by rw [← hW0]; exact ((Gr.refl w).alloc _).alloc _)
  have B1 := Lib.hid (show BoxO W0 w.heap.size (.slice a n c) (.slice a2 m d) by rw [← hW0]; exact (BoxO.new rfl).gr ((Gr.refl _).alloc _))
  have B3 := Lib.hid (show Box2 W0 (w.heap.size + 1) 0 0 by rw [← hW0]; exact Box2.new (by simp))
  have hwz := Lib.hid (show w.heap.size + 1 < W0.heap.size by rw [← hW0]; simp)
  obtain ⟨p0, p1⟩ := B1.out
  have C := Lib.hid (hC W0 G0.out)
  have e1 : (E == 0) = false := by simpa using hE
  have e2 : (E != 0) = true := by simpa using hE
  clear hC hE hwz
  go_enter Tryz.func12, Tryz.ntmps12
  go_wp2_with (go_at_call 29; (with_reducible refine C.out.mono ?_); rintro e w1 ⟨rfl, g1⟩; have g1' := g1.alloc (.cells #[.slice none b1 b2, .slice none c5 c6, .int .i64 x, .int .i64 y] 57); obtain ⟨W1, hW1⟩ : ∃ W1, w1.alloc (.cells #[.slice none b1 b2, .slice none c5 c6, .int .i64 x, .int .i64 y] 57) = W1 := ⟨_, rfl⟩; rw [hW1] at g1'; have G1 := Lib.hid (G0.out.trans g1'); have B4 := Lib.hid (B3.out.gr g1'); obtain ⟨k0, k1, k2, k3⟩ := B4.out; clear g1 g1')
  obtain ⟨z0, z1, _⟩ := B4.out.put (x' := 0) (y' := 0)
  refine bodyPost_ret (v := .tuple #[.agg #[.int .i64 0, .int .i64 0], .int .i64 E]) (by simp [results, Tryz.results12, go_sem, z0, z1]) rfl ⟨rfl, ?_⟩
  repeat (first | exact G1.out | refine Gr.setCell ?_ (by simp; omega) _ | refine Gr.setCell ?_ (by simp) _ | refine Gr.alloc ?_ _ | refine Gr.drewN ?_ _ | refine Gr.drew ?_)

theorem Price_no (a a2 : Option Addr) (n c m d : Nat) (f g : Nat → Int) (k : Int) (w : World) (hn : n ≤ 1000) (hm : m ≤ 1000) (hr : RdI w a n f) (hs : RdI w a2 m g) (hv : vO n m f g = false) :
    Calls Tryz.prog 12 #[.agg #[.slice a n c, .slice a2 m d], .int .i64 k] w (RetRE 0 0 70 w) :=
  Price_gen a a2 n c m d k 0 0 0 0 0 0 70 w (by omega) (fun w' k => newOdds_no a a2 n c m d f g w' hn hm (hr.gr k) (hs.gr k) hv)
set_option maxHeartbeats 4000000 in
set_option maxRecDepth 100000 in
theorem Price_bad (a a2 : Option Addr) (n c d : Nat) (f g : Nat → Int) (k : Int) (w : World) (hr : RdI w a n f) (hs : RdI w a2 n g) (hv : VO n n f g) (hk : btw 1 k n = false) :
    Calls Tryz.prog 12 #[.agg #[.slice a n c, .slice a2 n d], .int .i64 k] w (RetRE 0 0 2 w) := by
  have n10 := hv.noise.few
  obtain ⟨W0, hW0⟩ : ∃ W0, (w.alloc (.cells #[.slice a n c, .slice a2 n d] 24)).alloc (.cells #[.int .i64 0, .int .i64 0] 28) = W0 := ⟨_, rfl⟩
  have G0 := Lib.hid (show Gr w W0 by rw [← hW0]; exact ((Gr.refl w).alloc _).alloc _)
  have B1 := Lib.hid (show BoxO W0 w.heap.size (.slice a n c) (.slice a2 n d) by rw [← hW0]; exact (BoxO.new rfl).gr ((Gr.refl _).alloc _))
  have B3 := Lib.hid (show Box2 W0 (w.heap.size + 1) 0 0 by rw [← hW0]; exact Box2.new (by simp))
  have hwz := Lib.hid (show w.heap.size + 1 < W0.heap.size by rw [← hW0]; simp)
  obtain ⟨p0, p1⟩ := B1.out
  have C := Lib.hid (newOdds_ok a a2 n c n d f g W0 (by omega) (by omega) (hr.gr G0.out) (hs.gr G0.out) (vO_iff.2 hv))
  have HK := Lib.hid hk
  have CB := Lib.hid (fun w' => show Calls Tryz.prog 32 #[.int .i64 1, .int .i64 k, .int .i64 n] w' fun e w'' => e = .returned (.bool false) ∧ w' = w'' from by rw [← HK.out]; exact between_any 1 k n w')
  clear hr hs hv hk HK hwz
  generalize sm f n = sf at *
  generalize sm g n = sg at *
  go_enter Tryz.func12, Tryz.ntmps12
  go_wp2_with (first
    | (go_at_call 29; (with_reducible refine C.out.mono ?_); rintro e w1 ⟨rfl, g1⟩; have g1' := g1.alloc (.cells #[.slice a n c, .slice a2 n d, .int .i64 sf, .int .i64 sg] 57); obtain ⟨W1, hW1⟩ : ∃ W1, w1.alloc (.cells #[.slice a n c, .slice a2 n d, .int .i64 sf, .int .i64 sg] 57) = W1 := ⟨_, rfl⟩; rw [hW1] at g1'; have G1 := Lib.hid (G0.out.trans g1'); have X1 := Lib.hid (show Box4 W1 w1.heap.size (.slice a n c) (.slice a2 n d) (.int .i64 sf) (.int .i64 sg) by rw [← hW1]; exact Box4.new rfl); have O1 := Lib.hid (B1.out.gr g1'); have B4 := Lib.hid (B3.out.gr g1'); clear g1 g1' p0 p1; obtain ⟨p0, p1⟩ := O1.out; obtain ⟨r0, r1, r2, r3, _⟩ := X1.out)
    | (go_at_call 30; (with_reducible refine (many_any _ _ _ _ _ _ _).mono ?_); rintro e w2 ⟨rfl, g2⟩; have G2 := Lib.hid (G1.out.trans g2); have B5 := Lib.hid (B4.out.gr g2); obtain ⟨k0, k1, k2, k3⟩ := B5.out; clear g2)
    | (go_at_call 32; (with_reducible refine (CB.out _).mono ?_); rintro e w3 ⟨rfl, rfl⟩))
  obtain ⟨z0, z1, _⟩ := B5.out.put (x' := 0) (y' := 0)
  refine bodyPost_ret (v := .tuple #[.agg #[.int .i64 0, .int .i64 0], .int .i64 2]) (by simp [results, Tryz.results12, go_sem, z0, z1]) rfl ⟨rfl, ?_⟩
  repeat (first | exact G2.out | refine Gr.setCell ?_ (by simp; omega) _ | refine Gr.setCell ?_ (by simp) _ | refine Gr.alloc ?_ _ | refine Gr.drewN ?_ _ | refine Gr.drew ?_)

/-- The price of the outcome r. -/
theorem pri_sz {f g : Nat → Int} {n r : Nat} (V : VO n n f g) (rn : r < n) (h0 : f r ≠ 0) : Sz (g r * sm f n) ∧ Sz (f r * sm g n) ∧ 0 < f r * sm g n ∧ IntKind.i64.wrap (g r * sm f n) = g r * sm f n ∧ IntKind.i64.wrap (f r * sm g n) = f r * sm g n := by
  have b1 := sm_le10 V.noise
  have b2 := sm_le10 V.signal
  have p1 := V.noise.sum
  have p2 := V.signal.sum
  have fb := V.noise.ok r rn
  have gb := V.signal.ok r rn
  have m1 := Int.mul_nonneg gb.1 (by omega : 0 ≤ sm f n)
  have m2 := Int.mul_le_mul gb.2 b1.2 (by omega) (by omega)
  have m3 := Int.mul_pos (show 0 < f r by omega) p2.1
  have m4 := Int.mul_le_mul fb.2 b2.2 (by omega) (by omega)
  exact ⟨⟨by omega, by omega⟩, ⟨by omega, by omega⟩, m3, (wr64 (by omega)).1, (wr64 (by omega)).1⟩

set_option maxHeartbeats 4000000 in
set_option maxRecDepth 100000 in
theorem Price_ok (a a2 : Option Addr) (n c d : Nat) (f g : Nat → Int) (j : Nat) (w : World) (hr : RdI w a n f) (hs : RdI w a2 n g) (hj : j < n) (hf : ∀ i, 0 ≤ f i) (hg : ∀ i, 0 ≤ g i) (hv : VO n n f g) :
    Calls Tryz.prog 12 #[.agg #[.slice a n c, .slice a2 n d], .int .i64 ((j : Int) + 1)] w (if f (rowN f g n j) = 0 then RetRE 0 0 5 w else RetRE (rN (g (rowN f g n j) * sm f n) (f (rowN f g n j) * sm g n)) (rD (g (rowN f g n j) * sm f n) (f (rowN f g n j) * sm g n)) 0 w) := by
  have n10 := hv.noise.few
  have n1 := hv.noise.one
  obtain ⟨r, hrr⟩ : ∃ r, rowN f g n j = r := ⟨_, rfl⟩
  have rn : r < n := by rw [← hrr]; exact (ord_row hf hg n1).bd j hj
  obtain ⟨bf, of, e1, hcf⟩ := hr.at rn
  obtain ⟨bg, og, e2, hcg⟩ := hs.at rn
  subst e1
  subst e2
  have cF := hcf r rn
  have cG := hcg r rn
  have lF := World.block_lt_of_cell? _ _ cF
  have lG := World.block_lt_of_cell? _ _ cG
  have fb := hv.noise.ok r rn
  have gb := hv.signal.ok r rn
  clear hcf hcg
  obtain ⟨W0, hW0⟩ : ∃ W0, (w.alloc (.cells #[.slice (some ⟨bf, of, none⟩) n c, .slice (some ⟨bg, og, none⟩) n d] 24)).alloc (.cells #[.int .i64 0, .int .i64 0] 28) = W0 := ⟨_, rfl⟩
  have G0 := Lib.hid (show Gr w W0 by rw [← hW0]; exact ((Gr.refl w).alloc _).alloc _)
  have B1 := Lib.hid (show BoxO W0 w.heap.size (.slice (some ⟨bf, of, none⟩) n c) (.slice (some ⟨bg, og, none⟩) n d) by rw [← hW0]; exact (BoxO.new rfl).gr ((Gr.refl _).alloc _))
  have B3 := Lib.hid (show Box2 W0 (w.heap.size + 1) 0 0 by rw [← hW0]; exact Box2.new (by simp))
  have hwz := Lib.hid (show w.heap.size + 1 < W0.heap.size by rw [← hW0]; simp)
  obtain ⟨p0, p1⟩ := B1.out
  have C := Lib.hid (newOdds_ok _ _ n c n d f g W0 (by omega) (by omega) (hr.gr G0.out) (hs.gr G0.out) (vO_iff.2 hv))
  have HK := Lib.hid (show btw 1 ((j : Int) + 1) n = true from btw_true.2 ⟨by omega, by omega⟩)
  have CB := Lib.hid (fun w' => show Calls Tryz.prog 32 #[.int .i64 1, .int .i64 ((j : Int) + 1), .int .i64 n] w' fun e w'' => e = .returned (.bool true) ∧ w' = w'' from by rw [← HK.out]; exact between_any 1 _ n w')
  have CR := Lib.hid (show ∀ u v w', Gr w w' → Calls Tryz.prog 35 #[.agg #[.slice (some ⟨bf, of, none⟩) n c, .slice (some ⟨bg, og, none⟩) n d, u, v]] w' (fun e w'' => ∃ rb ro cv, e = .returned (.slice (some ⟨rb, ro, none⟩) n cv) ∧ w''.cell? ⟨rb, ro + j, none⟩ = some (.int .i64 (r : Int)) ∧ Gr w' w'') from fun u v w' k => (row_any _ _ n c d f g u v w' ⟨n1, n10⟩ (hr.gr k) (hs.gr k) hv.noise.ok hv.signal.ok).mono fun e w'' ⟨av, cv, he, _, _, hx, gx⟩ => by
    obtain ⟨rb, ro, e1, hc⟩ := hx.at hj
    have := hc j hj
    rw [hrr] at this
    exact ⟨rb, ro, cv, by rw [he, e1], this, gx⟩)
  have kw : IntKind.i64.wrap ((j : Int) + 1 - 1) = (j : Int) := by rw [show (j : Int) + 1 - 1 = (j : Int) by omega]; exact (wr64 (by omega)).1
  have i1 : (j : Int) < (n : Int) := by omega
  have i2 : (r : Int) < (n : Int) := by omega
  rw [hrr]
  have PS := Lib.hid (fun h0 => pri_sz hv rn h0)
  have CT := Lib.hid (fun h0 w' => ratio_any (g r * sm f n) (f r * sm g n) w' (PS.out h0).1 (PS.out h0).2.1 (PS.out h0).2.2.1)
  clear hr hs hv hf hg HK hrr
  generalize sm f n = sf at *
  generalize sm g n = sg at *
  generalize f r = fr at *
  generalize g r = gr at *
  have RA := Lib.hid cF
  have RB := Lib.hid cG
  by_cases h0 : fr = 0
  · rw [if_pos h0]
    have z1 : (fr == 0) = true := by simp [h0]
    clear PS CT h0
    go_enter Tryz.func12, Tryz.ntmps12
    go_wp2_with (first
      | (go_at_call 29; (with_reducible refine C.out.mono ?_); rintro e w1 ⟨rfl, g1⟩; have hw1 := Lib.hid (show w.heap.size + 1 < w1.heap.size from by have := hwz.out; have := g1.size; omega); have g1' := g1.alloc (.cells #[.slice (some ⟨bf, of, none⟩) n c, .slice (some ⟨bg, og, none⟩) n d, .int .i64 sf, .int .i64 sg] 57); obtain ⟨W1, hW1⟩ : ∃ W1, w1.alloc (.cells #[.slice (some ⟨bf, of, none⟩) n c, .slice (some ⟨bg, og, none⟩) n d, .int .i64 sf, .int .i64 sg] 57) = W1 := ⟨_, rfl⟩; rw [hW1] at g1'; have G1 := Lib.hid (G0.out.trans g1'); have X1 := Lib.hid (show Box4 W1 w1.heap.size (.slice (some ⟨bf, of, none⟩) n c) (.slice (some ⟨bg, og, none⟩) n d) (.int .i64 sf) (.int .i64 sg) by rw [← hW1]; exact Box4.new rfl); have O1 := Lib.hid (B1.out.gr g1'); have B4 := Lib.hid (B3.out.gr g1'); clear g1 g1' p0 p1; obtain ⟨p0, p1⟩ := O1.out; obtain ⟨r0, r1, r2, r3, _⟩ := X1.out)
      | (go_at_call 30; (with_reducible refine (many_any _ _ _ _ _ _ _).mono ?_); rintro e w2 ⟨rfl, g2⟩; have G2 := Lib.hid (G1.out.trans g2); have B5 := Lib.hid (B4.out.gr g2); have O2 := Lib.hid (O1.out.gr g2); have X2 := Lib.hid (X1.out.gr g2); clear p0 p1 r0 r1 r2 r3; obtain ⟨p0, p1⟩ := O2.out; obtain ⟨r0, r1, r2, r3, _⟩ := X2.out; clear g2)
      | (go_at_call 32; (with_reducible refine (CB.out _).mono ?_); rintro e w3 ⟨rfl, rfl⟩)
      | (go_at_call 35; (with_reducible refine (CR.out _ _ _ G2.out).mono ?_); rintro e w4 ⟨rb, ro, cv, rfl, rc, g4⟩; have G4 := Lib.hid (G2.out.trans g4); have B6 := Lib.hid (B5.out.gr g4); have O4 := Lib.hid (O2.out.gr g4); have cF := G4.out.cell RA.out; clear p0 p1 r0 r1 r2 r3; obtain ⟨p0, p1⟩ := O4.out; obtain ⟨k0, k1, k2, k3⟩ := B6.out; clear g4))
    obtain ⟨z0, z1, _⟩ := B6.out.put (x' := 0) (y' := 0)
    refine bodyPost_ret (v := .tuple #[.agg #[.int .i64 0, .int .i64 0], .int .i64 5]) (by simp [results, Tryz.results12, go_sem, z0, z1]) rfl ⟨rfl, ?_⟩
    repeat (first | exact G4.out | refine Gr.setCell ?_ (by simp; omega) _ | refine Gr.setCell ?_ (by simp) _ | refine Gr.alloc ?_ _ | refine Gr.drewN ?_ _ | refine Gr.drew ?_)
  · rw [if_neg h0]
    have z1 : (fr == 0) = false := by simp [h0]
    obtain ⟨_, _, _, u1, u2⟩ := PS.out h0
    have CT := Lib.hid (CT.out h0)
    clear PS h0
    obtain ⟨T1, e1⟩ : ∃ X, gr * sf = X := ⟨_, rfl⟩
    obtain ⟨T2, e2⟩ : ∃ X, fr * sg = X := ⟨_, rfl⟩
    have q1 : IntKind.i64.wrap (gr * sf) = T1 := by rw [u1, e1]
    have q2 : IntKind.i64.wrap (fr * sg) = T2 := by rw [u2, e2]
    rw [e1, e2] at CT ⊢
    clear e1 e2 u1 u2
    go_enter Tryz.func12, Tryz.ntmps12
    go_wp2_with (first
      | (go_at_call 29; (with_reducible refine C.out.mono ?_); rintro e w1 ⟨rfl, g1⟩; have hw1 := Lib.hid (show w.heap.size + 1 < w1.heap.size from by have := hwz.out; have := g1.size; omega); have g1' := g1.alloc (.cells #[.slice (some ⟨bf, of, none⟩) n c, .slice (some ⟨bg, og, none⟩) n d, .int .i64 sf, .int .i64 sg] 57); obtain ⟨W1, hW1⟩ : ∃ W1, w1.alloc (.cells #[.slice (some ⟨bf, of, none⟩) n c, .slice (some ⟨bg, og, none⟩) n d, .int .i64 sf, .int .i64 sg] 57) = W1 := ⟨_, rfl⟩; rw [hW1] at g1'; have G1 := Lib.hid (G0.out.trans g1'); have X1 := Lib.hid (show Box4 W1 w1.heap.size (.slice (some ⟨bf, of, none⟩) n c) (.slice (some ⟨bg, og, none⟩) n d) (.int .i64 sf) (.int .i64 sg) by rw [← hW1]; exact Box4.new rfl); have O1 := Lib.hid (B1.out.gr g1'); have B4 := Lib.hid (B3.out.gr g1'); clear g1 g1' p0 p1; obtain ⟨p0, p1⟩ := O1.out; obtain ⟨r0, r1, r2, r3, _⟩ := X1.out)
      | (go_at_call 30; (with_reducible refine (many_any _ _ _ _ _ _ _).mono ?_); rintro e w2 ⟨rfl, g2⟩; have G2 := Lib.hid (G1.out.trans g2); have B5 := Lib.hid (B4.out.gr g2); have O2 := Lib.hid (O1.out.gr g2); have X2 := Lib.hid (X1.out.gr g2); clear p0 p1 r0 r1 r2 r3; obtain ⟨p0, p1⟩ := O2.out; obtain ⟨r0, r1, r2, r3, _⟩ := X2.out; clear g2)
      | (go_at_call 32; (with_reducible refine (CB.out _).mono ?_); rintro e w3 ⟨rfl, rfl⟩)
      | (go_at_call 35; (with_reducible refine (CR.out _ _ _ G2.out).mono ?_); rintro e w4 ⟨rb, ro, cv, rfl, rc, g4⟩; have hw4 := Lib.hid (show w.heap.size + 1 < w1.heap.size from hw1.out); have G4 := Lib.hid (G2.out.trans g4); have B6 := Lib.hid (B5.out.gr g4); have O4 := Lib.hid (O2.out.gr g4); have X4 := Lib.hid (X2.out.gr g4); have cF := G4.out.cell RA.out; have cG := G4.out.cell RB.out; clear p0 p1 r0 r1 r2 r3; obtain ⟨p0, p1⟩ := O4.out; obtain ⟨r0, r1, r2, r3, _⟩ := X4.out; clear g4))
    refine (wpIn_wide (n := 3)).1 ?_
    refine wpIn_region_held (Kp w [(w.heap.size, 0, .slice (some ⟨bf, of, none⟩) n c), (w.heap.size, 1, .slice (some ⟨bg, og, none⟩) n d), (w1.heap.size, 2, .int .i64 sf), (w1.heap.size, 3, .int .i64 sg), (bf, of + r, .int .i64 fr), (bg, og + r, .int .i64 gr)]) 19 (by kernel_rfl) rfl rfl ?_
    have hS : Kp w [(w.heap.size, 0, .slice (some ⟨bf, of, none⟩) n c), (w.heap.size, 1, .slice (some ⟨bg, og, none⟩) n d), (w1.heap.size, 2, .int .i64 sf), (w1.heap.size, 3, .int .i64 sg), (bf, of + r, .int .i64 fr), (bg, og + r, .int .i64 gr)] w4.drew := Kp.drew ⟨G4.out, by
      intro x hx
      rcases List.mem_cons.1 hx with rfl | hx; exact (by assumption : w4.cell? ⟨w.heap.size, 0, none⟩ = some (.slice (some ⟨bf, of, none⟩) n c))
      rcases List.mem_cons.1 hx with rfl | hx; exact (by assumption : w4.cell? ⟨w.heap.size, 1, none⟩ = some (.slice (some ⟨bg, og, none⟩) n d))
      rcases List.mem_cons.1 hx with rfl | hx; exact (by assumption : w4.cell? ⟨w1.heap.size, 2, none⟩ = some (.int .i64 sf))
      rcases List.mem_cons.1 hx with rfl | hx; exact (by assumption : w4.cell? ⟨w1.heap.size, 3, none⟩ = some (.int .i64 sg))
      rcases List.mem_cons.1 hx with rfl | hx; exact (by assumption : w4.cell? ⟨bf, of + r, none⟩ = some (.int .i64 fr))
      rcases List.mem_cons.1 hx with rfl | hx; exact (by assumption : w4.cell? ⟨bg, og + r, none⟩ = some (.int .i64 gr))
      exact absurd hx (by simp)⟩
    have hw1' := hw1.out
    clear p0 p1 r0 r1 r2 r3 cF cG rc
    iterate 16 (first
      | (refine wpAnyHIn_take 0 (v := ?_) rfl (by kernel_rfl) (by kernel_rfl) (by kernel_rfl) (by decide +kernel) (fun _ _ _ h => h) (fun _ _ _ => trivial) (by rfl) (fun w' hSw => ?_) hS ?_; rotate_left 1; (focus (have z0 : w'.cell? ⟨w.heap.size, 0, none⟩ = some (.slice (some ⟨bf, of, none⟩) n c) := hSw.2 _ (.head _); have z1 : w'.cell? ⟨w.heap.size, 1, none⟩ = some (.slice (some ⟨bg, og, none⟩) n d) := hSw.2 _ (.tail _ (.head _)); have z2 : w'.cell? ⟨w1.heap.size, 2, none⟩ = some (.int .i64 sf) := hSw.2 _ (.tail _ (.tail _ (.head _))); have z3 : w'.cell? ⟨w1.heap.size, 3, none⟩ = some (.int .i64 sg) := hSw.2 _ (.tail _ (.tail _ (.tail _ (.head _)))); have z4 : w'.cell? ⟨bf, of + r, none⟩ = some (.int .i64 fr) := hSw.2 _ (.tail _ (.tail _ (.tail _ (.tail _ (.head _))))); have z5 : w'.cell? ⟨bg, og + r, none⟩ = some (.int .i64 gr) := hSw.2 _ (.tail _ (.tail _ (.tail _ (.tail _ (.tail _ (.head _)))))); go_simp; try with_reducible rfl)); simp only [Act.put, List.setIfInBounds_toArray, List.set_cons_zero, List.set_cons_succ])
      | (refine wpAnyHIn_take 1 (v := ?_) rfl (by kernel_rfl) (by kernel_rfl) (by kernel_rfl) (by decide +kernel) (fun _ _ _ h => h) (fun _ _ _ => trivial) (by rfl) (fun w' hSw => ?_) hS ?_; rotate_left 1; (focus (have z0 : w'.cell? ⟨w.heap.size, 0, none⟩ = some (.slice (some ⟨bf, of, none⟩) n c) := hSw.2 _ (.head _); have z1 : w'.cell? ⟨w.heap.size, 1, none⟩ = some (.slice (some ⟨bg, og, none⟩) n d) := hSw.2 _ (.tail _ (.head _)); have z2 : w'.cell? ⟨w1.heap.size, 2, none⟩ = some (.int .i64 sf) := hSw.2 _ (.tail _ (.tail _ (.head _))); have z3 : w'.cell? ⟨w1.heap.size, 3, none⟩ = some (.int .i64 sg) := hSw.2 _ (.tail _ (.tail _ (.tail _ (.head _)))); have z4 : w'.cell? ⟨bf, of + r, none⟩ = some (.int .i64 fr) := hSw.2 _ (.tail _ (.tail _ (.tail _ (.tail _ (.head _))))); have z5 : w'.cell? ⟨bg, og + r, none⟩ = some (.int .i64 gr) := hSw.2 _ (.tail _ (.tail _ (.tail _ (.tail _ (.tail _ (.head _)))))); go_simp; try with_reducible rfl)); simp only [Act.put, List.setIfInBounds_toArray, List.set_cons_zero, List.set_cons_succ])
      | (refine wpAnyHIn_take 2 (v := ?_) rfl (by kernel_rfl) (by kernel_rfl) (by kernel_rfl) (by decide +kernel) (fun _ _ _ h => h) (fun _ _ _ => trivial) (by rfl) (fun w' hSw => ?_) hS ?_; rotate_left 1; (focus (have z0 : w'.cell? ⟨w.heap.size, 0, none⟩ = some (.slice (some ⟨bf, of, none⟩) n c) := hSw.2 _ (.head _); have z1 : w'.cell? ⟨w.heap.size, 1, none⟩ = some (.slice (some ⟨bg, og, none⟩) n d) := hSw.2 _ (.tail _ (.head _)); have z2 : w'.cell? ⟨w1.heap.size, 2, none⟩ = some (.int .i64 sf) := hSw.2 _ (.tail _ (.tail _ (.head _))); have z3 : w'.cell? ⟨w1.heap.size, 3, none⟩ = some (.int .i64 sg) := hSw.2 _ (.tail _ (.tail _ (.tail _ (.head _)))); have z4 : w'.cell? ⟨bf, of + r, none⟩ = some (.int .i64 fr) := hSw.2 _ (.tail _ (.tail _ (.tail _ (.tail _ (.head _))))); have z5 : w'.cell? ⟨bg, og + r, none⟩ = some (.int .i64 gr) := hSw.2 _ (.tail _ (.tail _ (.tail _ (.tail _ (.tail _ (.head _)))))); go_simp; try with_reducible rfl)); simp only [Act.put, List.setIfInBounds_toArray, List.set_cons_zero, List.set_cons_succ])
      | (refine wpAnyHIn_take 3 (v := ?_) rfl (by kernel_rfl) (by kernel_rfl) (by kernel_rfl) (by decide +kernel) (fun _ _ _ h => h) (fun _ _ _ => trivial) (by rfl) (fun w' hSw => ?_) hS ?_; rotate_left 1; (focus (have z0 : w'.cell? ⟨w.heap.size, 0, none⟩ = some (.slice (some ⟨bf, of, none⟩) n c) := hSw.2 _ (.head _); have z1 : w'.cell? ⟨w.heap.size, 1, none⟩ = some (.slice (some ⟨bg, og, none⟩) n d) := hSw.2 _ (.tail _ (.head _)); have z2 : w'.cell? ⟨w1.heap.size, 2, none⟩ = some (.int .i64 sf) := hSw.2 _ (.tail _ (.tail _ (.head _))); have z3 : w'.cell? ⟨w1.heap.size, 3, none⟩ = some (.int .i64 sg) := hSw.2 _ (.tail _ (.tail _ (.tail _ (.head _)))); have z4 : w'.cell? ⟨bf, of + r, none⟩ = some (.int .i64 fr) := hSw.2 _ (.tail _ (.tail _ (.tail _ (.tail _ (.head _))))); have z5 : w'.cell? ⟨bg, og + r, none⟩ = some (.int .i64 gr) := hSw.2 _ (.tail _ (.tail _ (.tail _ (.tail _ (.tail _ (.head _)))))); go_simp; try with_reducible rfl)); simp only [Act.put, List.setIfInBounds_toArray, List.set_cons_zero, List.set_cons_succ])
      | (refine wpAnyHIn_take 4 (v := ?_) rfl (by kernel_rfl) (by kernel_rfl) (by kernel_rfl) (by decide +kernel) (fun _ _ _ h => h) (fun _ _ _ => trivial) (by rfl) (fun w' hSw => ?_) hS ?_; rotate_left 1; (focus (have z0 : w'.cell? ⟨w.heap.size, 0, none⟩ = some (.slice (some ⟨bf, of, none⟩) n c) := hSw.2 _ (.head _); have z1 : w'.cell? ⟨w.heap.size, 1, none⟩ = some (.slice (some ⟨bg, og, none⟩) n d) := hSw.2 _ (.tail _ (.head _)); have z2 : w'.cell? ⟨w1.heap.size, 2, none⟩ = some (.int .i64 sf) := hSw.2 _ (.tail _ (.tail _ (.head _))); have z3 : w'.cell? ⟨w1.heap.size, 3, none⟩ = some (.int .i64 sg) := hSw.2 _ (.tail _ (.tail _ (.tail _ (.head _)))); have z4 : w'.cell? ⟨bf, of + r, none⟩ = some (.int .i64 fr) := hSw.2 _ (.tail _ (.tail _ (.tail _ (.tail _ (.head _))))); have z5 : w'.cell? ⟨bg, og + r, none⟩ = some (.int .i64 gr) := hSw.2 _ (.tail _ (.tail _ (.tail _ (.tail _ (.tail _ (.head _)))))); go_simp; try with_reducible rfl)); simp only [Act.put, List.setIfInBounds_toArray, List.set_cons_zero, List.set_cons_succ])
      | (refine wpAnyHIn_take 5 (v := ?_) rfl (by kernel_rfl) (by kernel_rfl) (by kernel_rfl) (by decide +kernel) (fun _ _ _ h => h) (fun _ _ _ => trivial) (by rfl) (fun w' hSw => ?_) hS ?_; rotate_left 1; (focus (have z0 : w'.cell? ⟨w.heap.size, 0, none⟩ = some (.slice (some ⟨bf, of, none⟩) n c) := hSw.2 _ (.head _); have z1 : w'.cell? ⟨w.heap.size, 1, none⟩ = some (.slice (some ⟨bg, og, none⟩) n d) := hSw.2 _ (.tail _ (.head _)); have z2 : w'.cell? ⟨w1.heap.size, 2, none⟩ = some (.int .i64 sf) := hSw.2 _ (.tail _ (.tail _ (.head _))); have z3 : w'.cell? ⟨w1.heap.size, 3, none⟩ = some (.int .i64 sg) := hSw.2 _ (.tail _ (.tail _ (.tail _ (.head _)))); have z4 : w'.cell? ⟨bf, of + r, none⟩ = some (.int .i64 fr) := hSw.2 _ (.tail _ (.tail _ (.tail _ (.tail _ (.head _))))); have z5 : w'.cell? ⟨bg, og + r, none⟩ = some (.int .i64 gr) := hSw.2 _ (.tail _ (.tail _ (.tail _ (.tail _ (.tail _ (.head _)))))); go_simp; try with_reducible rfl)); simp only [Act.put, List.setIfInBounds_toArray, List.set_cons_zero, List.set_cons_succ])
      | (refine wpAnyHIn_take 6 (v := ?_) rfl (by kernel_rfl) (by kernel_rfl) (by kernel_rfl) (by decide +kernel) (fun _ _ _ h => h) (fun _ _ _ => trivial) (by rfl) (fun w' hSw => ?_) hS ?_; rotate_left 1; (focus (have z0 : w'.cell? ⟨w.heap.size, 0, none⟩ = some (.slice (some ⟨bf, of, none⟩) n c) := hSw.2 _ (.head _); have z1 : w'.cell? ⟨w.heap.size, 1, none⟩ = some (.slice (some ⟨bg, og, none⟩) n d) := hSw.2 _ (.tail _ (.head _)); have z2 : w'.cell? ⟨w1.heap.size, 2, none⟩ = some (.int .i64 sf) := hSw.2 _ (.tail _ (.tail _ (.head _))); have z3 : w'.cell? ⟨w1.heap.size, 3, none⟩ = some (.int .i64 sg) := hSw.2 _ (.tail _ (.tail _ (.tail _ (.head _)))); have z4 : w'.cell? ⟨bf, of + r, none⟩ = some (.int .i64 fr) := hSw.2 _ (.tail _ (.tail _ (.tail _ (.tail _ (.head _))))); have z5 : w'.cell? ⟨bg, og + r, none⟩ = some (.int .i64 gr) := hSw.2 _ (.tail _ (.tail _ (.tail _ (.tail _ (.tail _ (.head _)))))); go_simp; try with_reducible rfl)); simp only [Act.put, List.setIfInBounds_toArray, List.set_cons_zero, List.set_cons_succ])
      | (refine wpAnyHIn_take 7 (v := ?_) rfl (by kernel_rfl) (by kernel_rfl) (by kernel_rfl) (by decide +kernel) (fun _ _ _ h => h) (fun _ _ _ => trivial) (by rfl) (fun w' hSw => ?_) hS ?_; rotate_left 1; (focus (have z0 : w'.cell? ⟨w.heap.size, 0, none⟩ = some (.slice (some ⟨bf, of, none⟩) n c) := hSw.2 _ (.head _); have z1 : w'.cell? ⟨w.heap.size, 1, none⟩ = some (.slice (some ⟨bg, og, none⟩) n d) := hSw.2 _ (.tail _ (.head _)); have z2 : w'.cell? ⟨w1.heap.size, 2, none⟩ = some (.int .i64 sf) := hSw.2 _ (.tail _ (.tail _ (.head _))); have z3 : w'.cell? ⟨w1.heap.size, 3, none⟩ = some (.int .i64 sg) := hSw.2 _ (.tail _ (.tail _ (.tail _ (.head _)))); have z4 : w'.cell? ⟨bf, of + r, none⟩ = some (.int .i64 fr) := hSw.2 _ (.tail _ (.tail _ (.tail _ (.tail _ (.head _))))); have z5 : w'.cell? ⟨bg, og + r, none⟩ = some (.int .i64 gr) := hSw.2 _ (.tail _ (.tail _ (.tail _ (.tail _ (.tail _ (.head _)))))); go_simp; try with_reducible rfl)); simp only [Act.put, List.setIfInBounds_toArray, List.set_cons_zero, List.set_cons_succ])
      | (refine wpAnyHIn_take 8 (v := ?_) rfl (by kernel_rfl) (by kernel_rfl) (by kernel_rfl) (by decide +kernel) (fun _ _ _ h => h) (fun _ _ _ => trivial) (by rfl) (fun w' hSw => ?_) hS ?_; rotate_left 1; (focus (have z0 : w'.cell? ⟨w.heap.size, 0, none⟩ = some (.slice (some ⟨bf, of, none⟩) n c) := hSw.2 _ (.head _); have z1 : w'.cell? ⟨w.heap.size, 1, none⟩ = some (.slice (some ⟨bg, og, none⟩) n d) := hSw.2 _ (.tail _ (.head _)); have z2 : w'.cell? ⟨w1.heap.size, 2, none⟩ = some (.int .i64 sf) := hSw.2 _ (.tail _ (.tail _ (.head _))); have z3 : w'.cell? ⟨w1.heap.size, 3, none⟩ = some (.int .i64 sg) := hSw.2 _ (.tail _ (.tail _ (.tail _ (.head _)))); have z4 : w'.cell? ⟨bf, of + r, none⟩ = some (.int .i64 fr) := hSw.2 _ (.tail _ (.tail _ (.tail _ (.tail _ (.head _))))); have z5 : w'.cell? ⟨bg, og + r, none⟩ = some (.int .i64 gr) := hSw.2 _ (.tail _ (.tail _ (.tail _ (.tail _ (.tail _ (.head _)))))); go_simp; try with_reducible rfl)); simp only [Act.put, List.setIfInBounds_toArray, List.set_cons_zero, List.set_cons_succ])
      | (refine wpAnyHIn_take 9 (v := ?_) rfl (by kernel_rfl) (by kernel_rfl) (by kernel_rfl) (by decide +kernel) (fun _ _ _ h => h) (fun _ _ _ => trivial) (by rfl) (fun w' hSw => ?_) hS ?_; rotate_left 1; (focus (have z0 : w'.cell? ⟨w.heap.size, 0, none⟩ = some (.slice (some ⟨bf, of, none⟩) n c) := hSw.2 _ (.head _); have z1 : w'.cell? ⟨w.heap.size, 1, none⟩ = some (.slice (some ⟨bg, og, none⟩) n d) := hSw.2 _ (.tail _ (.head _)); have z2 : w'.cell? ⟨w1.heap.size, 2, none⟩ = some (.int .i64 sf) := hSw.2 _ (.tail _ (.tail _ (.head _))); have z3 : w'.cell? ⟨w1.heap.size, 3, none⟩ = some (.int .i64 sg) := hSw.2 _ (.tail _ (.tail _ (.tail _ (.head _)))); have z4 : w'.cell? ⟨bf, of + r, none⟩ = some (.int .i64 fr) := hSw.2 _ (.tail _ (.tail _ (.tail _ (.tail _ (.head _))))); have z5 : w'.cell? ⟨bg, og + r, none⟩ = some (.int .i64 gr) := hSw.2 _ (.tail _ (.tail _ (.tail _ (.tail _ (.tail _ (.head _)))))); go_simp; try with_reducible rfl)); simp only [Act.put, List.setIfInBounds_toArray, List.set_cons_zero, List.set_cons_succ])
      | (refine wpAnyHIn_take 10 (v := ?_) rfl (by kernel_rfl) (by kernel_rfl) (by kernel_rfl) (by decide +kernel) (fun _ _ _ h => h) (fun _ _ _ => trivial) (by rfl) (fun w' hSw => ?_) hS ?_; rotate_left 1; (focus (have z0 : w'.cell? ⟨w.heap.size, 0, none⟩ = some (.slice (some ⟨bf, of, none⟩) n c) := hSw.2 _ (.head _); have z1 : w'.cell? ⟨w.heap.size, 1, none⟩ = some (.slice (some ⟨bg, og, none⟩) n d) := hSw.2 _ (.tail _ (.head _)); have z2 : w'.cell? ⟨w1.heap.size, 2, none⟩ = some (.int .i64 sf) := hSw.2 _ (.tail _ (.tail _ (.head _))); have z3 : w'.cell? ⟨w1.heap.size, 3, none⟩ = some (.int .i64 sg) := hSw.2 _ (.tail _ (.tail _ (.tail _ (.head _)))); have z4 : w'.cell? ⟨bf, of + r, none⟩ = some (.int .i64 fr) := hSw.2 _ (.tail _ (.tail _ (.tail _ (.tail _ (.head _))))); have z5 : w'.cell? ⟨bg, og + r, none⟩ = some (.int .i64 gr) := hSw.2 _ (.tail _ (.tail _ (.tail _ (.tail _ (.tail _ (.head _)))))); go_simp; try with_reducible rfl)); simp only [Act.put, List.setIfInBounds_toArray, List.set_cons_zero, List.set_cons_succ])
      | (refine wpAnyHIn_take 11 (v := ?_) rfl (by kernel_rfl) (by kernel_rfl) (by kernel_rfl) (by decide +kernel) (fun _ _ _ h => h) (fun _ _ _ => trivial) (by rfl) (fun w' hSw => ?_) hS ?_; rotate_left 1; (focus (have z0 : w'.cell? ⟨w.heap.size, 0, none⟩ = some (.slice (some ⟨bf, of, none⟩) n c) := hSw.2 _ (.head _); have z1 : w'.cell? ⟨w.heap.size, 1, none⟩ = some (.slice (some ⟨bg, og, none⟩) n d) := hSw.2 _ (.tail _ (.head _)); have z2 : w'.cell? ⟨w1.heap.size, 2, none⟩ = some (.int .i64 sf) := hSw.2 _ (.tail _ (.tail _ (.head _))); have z3 : w'.cell? ⟨w1.heap.size, 3, none⟩ = some (.int .i64 sg) := hSw.2 _ (.tail _ (.tail _ (.tail _ (.head _)))); have z4 : w'.cell? ⟨bf, of + r, none⟩ = some (.int .i64 fr) := hSw.2 _ (.tail _ (.tail _ (.tail _ (.tail _ (.head _))))); have z5 : w'.cell? ⟨bg, og + r, none⟩ = some (.int .i64 gr) := hSw.2 _ (.tail _ (.tail _ (.tail _ (.tail _ (.tail _ (.head _)))))); go_simp; try with_reducible rfl)); simp only [Act.put, List.setIfInBounds_toArray, List.set_cons_zero, List.set_cons_succ])
      | (refine wpAnyHIn_take 12 (v := ?_) rfl (by kernel_rfl) (by kernel_rfl) (by kernel_rfl) (by decide +kernel) (fun _ _ _ h => h) (fun _ _ _ => trivial) (by rfl) (fun w' hSw => ?_) hS ?_; rotate_left 1; (focus (have z0 : w'.cell? ⟨w.heap.size, 0, none⟩ = some (.slice (some ⟨bf, of, none⟩) n c) := hSw.2 _ (.head _); have z1 : w'.cell? ⟨w.heap.size, 1, none⟩ = some (.slice (some ⟨bg, og, none⟩) n d) := hSw.2 _ (.tail _ (.head _)); have z2 : w'.cell? ⟨w1.heap.size, 2, none⟩ = some (.int .i64 sf) := hSw.2 _ (.tail _ (.tail _ (.head _))); have z3 : w'.cell? ⟨w1.heap.size, 3, none⟩ = some (.int .i64 sg) := hSw.2 _ (.tail _ (.tail _ (.tail _ (.head _)))); have z4 : w'.cell? ⟨bf, of + r, none⟩ = some (.int .i64 fr) := hSw.2 _ (.tail _ (.tail _ (.tail _ (.tail _ (.head _))))); have z5 : w'.cell? ⟨bg, og + r, none⟩ = some (.int .i64 gr) := hSw.2 _ (.tail _ (.tail _ (.tail _ (.tail _ (.tail _ (.head _)))))); go_simp; try with_reducible rfl)); simp only [Act.put, List.setIfInBounds_toArray, List.set_cons_zero, List.set_cons_succ])
      | (refine wpAnyHIn_take 13 (v := ?_) rfl (by kernel_rfl) (by kernel_rfl) (by kernel_rfl) (by decide +kernel) (fun _ _ _ h => h) (fun _ _ _ => trivial) (by rfl) (fun w' hSw => ?_) hS ?_; rotate_left 1; (focus (have z0 : w'.cell? ⟨w.heap.size, 0, none⟩ = some (.slice (some ⟨bf, of, none⟩) n c) := hSw.2 _ (.head _); have z1 : w'.cell? ⟨w.heap.size, 1, none⟩ = some (.slice (some ⟨bg, og, none⟩) n d) := hSw.2 _ (.tail _ (.head _)); have z2 : w'.cell? ⟨w1.heap.size, 2, none⟩ = some (.int .i64 sf) := hSw.2 _ (.tail _ (.tail _ (.head _))); have z3 : w'.cell? ⟨w1.heap.size, 3, none⟩ = some (.int .i64 sg) := hSw.2 _ (.tail _ (.tail _ (.tail _ (.head _)))); have z4 : w'.cell? ⟨bf, of + r, none⟩ = some (.int .i64 fr) := hSw.2 _ (.tail _ (.tail _ (.tail _ (.tail _ (.head _))))); have z5 : w'.cell? ⟨bg, og + r, none⟩ = some (.int .i64 gr) := hSw.2 _ (.tail _ (.tail _ (.tail _ (.tail _ (.tail _ (.head _)))))); go_simp; try with_reducible rfl)); simp only [Act.put, List.setIfInBounds_toArray, List.set_cons_zero, List.set_cons_succ])
      | (refine wpAnyHIn_take 14 (v := ?_) rfl (by kernel_rfl) (by kernel_rfl) (by kernel_rfl) (by decide +kernel) (fun _ _ _ h => h) (fun _ _ _ => trivial) (by rfl) (fun w' hSw => ?_) hS ?_; rotate_left 1; (focus (have z0 : w'.cell? ⟨w.heap.size, 0, none⟩ = some (.slice (some ⟨bf, of, none⟩) n c) := hSw.2 _ (.head _); have z1 : w'.cell? ⟨w.heap.size, 1, none⟩ = some (.slice (some ⟨bg, og, none⟩) n d) := hSw.2 _ (.tail _ (.head _)); have z2 : w'.cell? ⟨w1.heap.size, 2, none⟩ = some (.int .i64 sf) := hSw.2 _ (.tail _ (.tail _ (.head _))); have z3 : w'.cell? ⟨w1.heap.size, 3, none⟩ = some (.int .i64 sg) := hSw.2 _ (.tail _ (.tail _ (.tail _ (.head _)))); have z4 : w'.cell? ⟨bf, of + r, none⟩ = some (.int .i64 fr) := hSw.2 _ (.tail _ (.tail _ (.tail _ (.tail _ (.head _))))); have z5 : w'.cell? ⟨bg, og + r, none⟩ = some (.int .i64 gr) := hSw.2 _ (.tail _ (.tail _ (.tail _ (.tail _ (.tail _ (.head _)))))); go_simp; try with_reducible rfl)); simp only [Act.put, List.setIfInBounds_toArray, List.set_cons_zero, List.set_cons_succ])
      | (refine wpAnyHIn_take 15 (v := ?_) rfl (by kernel_rfl) (by kernel_rfl) (by kernel_rfl) (by decide +kernel) (fun _ _ _ h => h) (fun _ _ _ => trivial) (by rfl) (fun w' hSw => ?_) hS ?_; rotate_left 1; (focus (have z0 : w'.cell? ⟨w.heap.size, 0, none⟩ = some (.slice (some ⟨bf, of, none⟩) n c) := hSw.2 _ (.head _); have z1 : w'.cell? ⟨w.heap.size, 1, none⟩ = some (.slice (some ⟨bg, og, none⟩) n d) := hSw.2 _ (.tail _ (.head _)); have z2 : w'.cell? ⟨w1.heap.size, 2, none⟩ = some (.int .i64 sf) := hSw.2 _ (.tail _ (.tail _ (.head _))); have z3 : w'.cell? ⟨w1.heap.size, 3, none⟩ = some (.int .i64 sg) := hSw.2 _ (.tail _ (.tail _ (.tail _ (.head _)))); have z4 : w'.cell? ⟨bf, of + r, none⟩ = some (.int .i64 fr) := hSw.2 _ (.tail _ (.tail _ (.tail _ (.tail _ (.head _))))); have z5 : w'.cell? ⟨bg, og + r, none⟩ = some (.int .i64 gr) := hSw.2 _ (.tail _ (.tail _ (.tail _ (.tail _ (.tail _ (.head _)))))); go_simp; try with_reducible rfl)); simp only [Act.put, List.setIfInBounds_toArray, List.set_cons_zero, List.set_cons_succ]))
    refine wpAnyHIn_ready [16] (by kernel_rfl) (by simp) ?_
    refine AllHIn.cons rfl (by rfl) (fun K hK => ?_) AllHIn.nil
    go_simp
    refine ⟨trivial, ?_⟩
    refine (callsIn_wide.2 (CT.out _)).mono ?_
    rintro e wX ⟨rfl, gX⟩
    have hS := hS.grow gX; have B7 := Lib.hid (B6.out.gr ((Gr.refl _).drew.trans gX)); clear gX
    refine hK.out _ _ hS ?_
    clear hK K
    obtain ⟨k0, k1, k2, k3⟩ := B7.out
    obtain ⟨y0, y1, _⟩ := B7.out.put (x' := rN T1 T2) (y' := rD T1 T2)
    refine wpAnyHIn_ready [17] (by kernel_rfl) (by simp) ?_
    refine AllHIn.cons rfl (by rfl) (fun K hK => ?_) AllHIn.nil
    go_simp
    have hS := (hS.set (k := w.heap.size + 1) (j := 0) (by omega) (by simp; omega) (.int .i64 (rN T1 T2))).set (k := w.heap.size + 1) (j := 1) (by omega) (by simp; omega) (.int .i64 (rD T1 T2))
    refine hK.out _ _ hS ?_
    clear hK K k0 k1 k2 k3
    iterate 1 (first
      | (refine wpAnyHIn_take 18 (v := ?_) rfl (by kernel_rfl) (by kernel_rfl) (by kernel_rfl) (by decide +kernel) (fun _ _ _ h => h) (fun _ _ _ => trivial) (by rfl) (fun w' hSw => ?_) hS ?_; rotate_left 1; (focus (skip; go_simp; try with_reducible rfl)); simp only [Act.put, List.setIfInBounds_toArray, List.set_cons_zero, List.set_cons_succ]))
    refine wpAnyHIn_done (by kernel_rfl) ?_ _
    go_wp2_with fail
    exact bodyPost_ret (v := .tuple #[.agg #[.int .i64 (rN T1 T2), .int .i64 (rD T1 T2)], .int .i64 0]) (by simp [results, Tryz.results12, go_sem, y0, y1]) rfl ⟨rfl, hS.1⟩
end Go.Proofs.YtohcnicadbpbbaaGreatDoor

namespace Go.Proofs.YtohcnicadbpbbaaGreatDoor
open Go.RowKit Go.Firn

end Go.Proofs.YtohcnicadbpbbaaGreatDoor
