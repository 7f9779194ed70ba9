/- Contracts of chapter 2: a copy of hits, moved and turned hits, of the program and of the reference; the same hits. -/
import Derived.Test.YtjokheeegcilhaaDoorWB
import Derived.Test.YtjokheeegcilhaaDoorPA
import Derived.Test.YtjokheeegcilhaaDoorCow
import Derived.Lib.LazyBuf
namespace Go.Proofs.YtjokheeegcilhaaDoor
open Go.RowKit Go.Firn

theorem Tryd.info51 : (Tryd.prog.info? 51).map (fun i => (i.zero, i.size, i.bytes)) = some (some (.agg #[.int .i64 0, .int .i64 0]), 2, 16) := by kernel_rfl

set_option maxRecDepth 20000 in
theorem Clone_any (adr : Option Addr) (n c : Nat) (P T : Nat → Int) (w : World) (hp : 1 ≤ n) (hn : n ≤ 1000) (hr : RdM w adr n P T) :
    Calls Tryd.prog 78 #[.slice adr n c] w fun e w' => ∃ g cap, e = .returned (.slice (some ⟨g, 0, none⟩) n cap) ∧ n ≤ cap ∧ cap ≤ maxLen ∧ w.heap.size ≤ g ∧ RowP w' g n P T ∧ Gr w w' := by
  obtain ⟨b, o, rfl, hc⟩ := hr.at hp
  have O0 := Lib.hid (OwnM.empty w 51)
  have HC := Lib.hid (fun i (hi : i < n) => ((⟨O0.out.2.cell (hc i hi).1, O0.out.2.cell (hc i hi).2⟩ : _ ∧ _)))
  have eq := run_eql_slice_nil (P := Tryd.prog) w 22 51 (some ⟨b, o, none⟩) n c Tryd.underlying22
  clear hc hr
  go_enter Tryd.func78, Tryd.ntmps78
  go_wp2_with (at_builtin; go_must (refine wpList_copy_pair rfl _ _ 22 51 rfl Tryd.underlying22 Tryd.info51 _ rfl O0.out b o n c P T rfl HC.out (by omega) ?_); intro v1 w1 hown1)
  go_ret
  obtain ⟨g, cap, rfl, h1, h2, h3, h4⟩ := hown1.rowP hp
  exact ⟨g, cap, rfl, h1, h2, h3, h4, hown1.2⟩

theorem btw_moved (x p : Int) : btw (-1000 - x) p (1000 - x) = inR (x + p) := by
  unfold btw inR
  congr 1 <;> (congr 1; apply propext; omega)
theorem wf_of {x : Int} (h : -4611686018427387904 ≤ x ∧ x ≤ 4611686018427387904) : (Lit.int .i64 x).wf = true := WalkArith.wf_i64 (by omega)

set_option maxHeartbeats 1000000 in
theorem Moved_any (adr : Option Addr) (n c : Nat) (P T : Nat → Int) (p t : Int) (w : World) (hn : n ≤ 1000) (hw : WfH n P T) (hr : RdM w adr n P T) :
    Calls Tryd.prog 31 #[.slice adr n c, .int .i64 p, .int .i64 t] w (RetMf (mvN n P T p t) (fun i => P i + p) (fun i => T i + t) (errM n P T p t) w) := by
  have HW := Lib.hid hw
  have HR := Lib.hid hr
  clear hw hr
  cases hv : vH n P T with
  | false =>
    have HV := Lib.hid hv
    have e1 : mvN n P T p t = 0 := by unfold mvN; rw [hv]; rfl
    have e2 : errM n P T p t = 20 := by unfold errM; rw [hv]; rfl
    rw [e1, e2]
    clear hv e1 e2
    go_enter Tryd.func31, Tryd.ntmps31
    go_wp2_with (go_at_call 26; refine (Valid_any adr n c P T _ hn HW.out HR.out).mono ?_; rintro e w1 ⟨rfl, g1⟩; rw [HV.out])
    go_ret2
    exact ⟨none, 0, rfl, Nat.le_refl _, by unfold maxLen; omega, .inl rfl, g1⟩
  | true =>
    have V := vH_iff.1 hv
    have HV := Lib.hid V
    have EV := Lib.hid hv
    have hp := V.pos
    have hf := V.few
    by_cases hb : btw (-2000) p 2000 = true ∧ btw (-2000) t 2000 = true
    · obtain ⟨b1, b2⟩ := hb
      have q1 : -2000 ≤ p ∧ p ≤ 2000 := by unfold btw at b1; simpa using b1
      have q2 : -2000 ≤ t ∧ t ≤ 2000 := by unfold btw at b2; simpa using b2
      have EM := Lib.hid (vH_moved V p t)
      have WM := Lib.hid (show WfH n (fun i => P i + p) (fun i => T i + t) from fun i hi => by
        have := V.ok i hi
        exact ⟨wf_of (x := P i + p) (by omega), wf_of (x := T i + t) (by omega)⟩)
      have EN := Lib.hid (show mvN n P T p t = if okMK P T p t n = true then n else 0 by unfold mvN; rw [hv]; rfl)
      have EE := Lib.hid (show errM n P T p t = if okMK P T p t n = true then 0 else 2 by unfold errM; rw [hv]; rfl)
      clear V hv
      go_enter Tryd.func31, Tryd.ntmps31
      go_wp2_with (first
        | (go_at_call 26; refine (Valid_any adr n c P T _ hn HW.out HR.out).mono ?_; rintro e w1 ⟨rfl, g1⟩; rw [EV.out])
        | (go_at_call 78; refine (Clone_any adr n c P T _ hp hn (HR.out.gr g1)).mono ?_; rintro e w2 ⟨g, cap, rfl, r1, r2, r3, r4, g2⟩; have G2 := Lib.hid (g1.trans g2); have B0 := Lib.hid (show w.heap.size ≤ g from Nat.le_trans g1.size r3); have R0 := Lib.hid (r4.congr (P' := fun i => if i < 0 then P i + p else P i) (T' := fun i => if i < 0 then T i + t else T i) fun i _ => ⟨rfl, rfl⟩); clear r4 g2 g1 r3))
      go_loopw [17] (fun s wr => ∃ k : Nat, k ≤ n ∧ s = .int .i64 k ∧ Hid (RowP wr g n (fun i => if i < k then P i + p else P i) (fun i => if i < k then T i + t else T i)) ∧ Hid (Gr w wr)) (fun s _ => n - (intOf s).toNat)
      case atStart => exact ⟨0, Nat.zero_le _, rfl, R0, G2⟩
      case round =>
        obtain ⟨k, hk, rfl, hR, hG⟩ := hrel
        by_cases hlt : k < n
        · obtain ⟨d1, d2, d3, d4⟩ := hR.out k hlt
          simp only [Nat.lt_irrefl, if_false] at d1 d2
          have k1 : (k : Int) < (n : Int) := by omega
          obtain ⟨o1, o2, o3, o4⟩ := HV.out.ok k hlt
          have e1 : IntKind.i64.wrap (P k + p) = P k + p := IntWalk.i64_in _ (by omega)
          have e2 : IntKind.i64.wrap (T k + t) = T k + t := IntWalk.i64_in _ (by omega)
          have R2 := Lib.hid (((hR.out.put1 (j := k) (P k + p)).put2 (j := k) (T k + t)).congr (P' := fun i => if i < k + 1 then P i + p else P i) (T' := fun i => if i < k + 1 then T i + t else T i) fun i _ => by
            by_cases e : i = k
            · subst e; simp
            · have : (i < k) = (i < k + 1) := by apply propext; omega
              simp only [e, if_false, this]; exact ⟨trivial, trivial⟩)
          have G3 := Lib.hid ((hG.out.setAt (b := g) (j := k * 2) B0.out (.int .i64 (P k + p))).setAt (b := g) (j := k * 2 + 1) B0.out (.int .i64 (T k + t)))
          clear o1 o2 o3 o4
          go_wp2_with (go_at_call 71; refine (between_any _ _ _ _).mono ?_; rintro e w1 ⟨rfl, rfl⟩)
          go_roundw
          case rel => exact ⟨k + 1, hlt, by go_num, R2, G3⟩
          case measure => simp [intOf]; omega
        · obtain rfl : k = n := by omega
          have R2 := Lib.hid (hR.out.congr (P' := fun i => P i + p) (T' := fun i => T i + t) fun i hi => by simp [hi])
          cases ho : okMK P T p t k with
          | true =>
            have EN2 := Lib.hid (show mvN k P T p t = k by rw [EN.out, ho]; rfl)
            have EE2 := Lib.hid (show errM k P T p t = 0 by rw [EE.out, ho]; rfl)
            have C := Lib.hid (fun w' a cc hr => by have := Valid_any a k cc (fun i => P i + p) (fun i => T i + t) w' hn WM.out hr; rw [EM.out, ho] at this; exact this)
            clear ho
            go_wp2_with (go_at_call 26; refine (C.out _ _ _ R2.out.rd).mono ?_; rintro e w1 ⟨rfl, g1⟩)
            go_ret2
            rw [EN2.out, EE2.out]
            exact ⟨_, cap, rfl, r1, r2, R2.out.rd.gr g1, hG.out.trans g1⟩
          | false =>
            have EN2 := Lib.hid (show mvN k P T p t = 0 by rw [EN.out, ho]; rfl)
            have EE2 := Lib.hid (show errM k P T p t = 2 by rw [EE.out, ho]; rfl)
            have C := Lib.hid (fun w' a cc hr => by have := Valid_any a k cc (fun i => P i + p) (fun i => T i + t) w' hn WM.out hr; rw [EM.out, ho] at this; exact this)
            clear ho
            go_wp2_with (go_at_call 26; refine (C.out _ _ _ R2.out.rd).mono ?_; rintro e w1 ⟨rfl, g1⟩)
            go_ret2
            rw [EN2.out, EE2.out]
            exact ⟨none, 0, rfl, Nat.le_refl _, by unfold maxLen; omega, .inl rfl, hG.out.trans g1⟩
    · have hb' : btw (-2000) p 2000 = false ∨ btw (-2000) t 2000 = false := by
        cases h1 : btw (-2000) p 2000 <;> cases h2 : btw (-2000) t 2000 <;> simp_all
      have ho : okMK P T p t n = false := okMK_far V hb'
      have e1 : mvN n P T p t = 0 := by unfold mvN; rw [hv, ho]; rfl
      have e2 : errM n P T p t = 2 := by unfold errM; rw [hv, ho]; rfl
      rw [e1, e2]
      have np : ¬ (n : Int) ≤ 0 := by omega
      have np2 : (0 : Int) < (n : Int) := by omega
      clear hv ho e1 e2 V hb
      cases h1 : btw (-2000) p 2000 with
      | false =>
        go_enter Tryd.func31, Tryd.ntmps31
        go_wp2_with (first
          | (go_at_call 26; refine (Valid_any adr n c P T _ hn HW.out HR.out).mono ?_; rintro e w1 ⟨rfl, g1⟩; rw [EV.out])
          | (go_at_call 78; refine (Clone_any adr n c P T _ hp hn (HR.out.gr g1)).mono ?_; rintro e w2 ⟨g, cap, rfl, r1, r2, r3, r4, g2⟩; have G2 := Lib.hid (g1.trans g2); clear g1 g2))
        refine wp_loop_rounds 1 ?_
        rw [rounds_succ]
        go_wp2_with (go_at_call 71; refine (between_any _ _ _ _).mono ?_; rintro e w1 ⟨rfl, rfl⟩)
        go_ret2
        exact ⟨none, 0, rfl, Nat.le_refl _, by unfold maxLen; omega, .inl rfl, G2.out⟩
      | true =>
        have h2 : btw (-2000) t 2000 = false := by rcases hb' with h | h <;> simp_all
        go_enter Tryd.func31, Tryd.ntmps31
        go_wp2_with (first
          | (go_at_call 26; refine (Valid_any adr n c P T _ hn HW.out HR.out).mono ?_; rintro e w1 ⟨rfl, g1⟩; rw [EV.out])
          | (go_at_call 78; refine (Clone_any adr n c P T _ hp hn (HR.out.gr g1)).mono ?_; rintro e w2 ⟨g, cap, rfl, r1, r2, r3, r4, g2⟩; have G2 := Lib.hid (g1.trans g2); clear g1 g2))
        refine wp_loop_rounds 1 ?_
        rw [rounds_succ]
        go_wp2_with (go_at_call 71; refine (between_any _ _ _ _).mono ?_; rintro e w1 ⟨rfl, rfl⟩)
        go_ret2
        exact ⟨none, 0, rfl, Nat.le_refl _, by unfold maxLen; omega, .inl rfl, G2.out⟩

end Go.Proofs.YtjokheeegcilhaaDoor
