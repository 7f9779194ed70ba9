/- Contracts of chapter 2: Past and Before of the reference. -/
import Derived.Test.YthgbnjndljjbgaaDoorW15
namespace Go.Proofs.YthgbnjndljjbgaaDoor
open Go.RowKit Go.Firn

set_option maxHeartbeats 1000000 in
theorem refPast_any (adr : Option Addr) (n c : Nat) (P T : Nat → Int) (x : Int) (w : World) (hn : n ≤ 1000) (hr : RdM w adr n P T) :
    Calls Tryd.prog 25 #[.slice adr n c, .int .i64 x] w (RetLE (pasG n P T x) (errP n P T x) w) := by
  have HR := Lib.hid hr
  clear hr
  cases hv : vH n P T with
  | false =>
    have HV := Lib.hid hv
    have e1 : pasG n P T x = [] := by unfold pasG; rw [hv]; rfl
    have e2 : errP n P T x = 20 := by unfold errP; rw [hv]; rfl
    rw [e1, e2]
    clear hv e1 e2
    go_enter Tryd.func25, Tryd.ntmps25
    go_wp2_with (go_at_call 27; refine (refValid_any adr n c P T _ hn HR.out).mono ?_; rintro e w1 h1; obtain ⟨rfl, g1⟩ := h1.gr; clear h1; rw [HV.out])
    go_ret2
    exact ⟨none, 0, rfl, Nat.le_refl _, by unfold maxLen; omega, .inl rfl, g1⟩
  | true =>
    have HV := Lib.hid (vH_iff.1 hv)
    have EV := Lib.hid hv
    have hf := HV.out.few
    cases hx : inH n x with
    | false =>
      have e1 : pasG n P T x = [] := by unfold pasG; rw [hv, hx]; rfl
      have e2 : errP n P T x = 2 := by unfold errP; rw [hv, hx]; rfl
      rw [e1, e2]
      have C1 := Lib.hid (fun w' => refisHit_v adr n c hf hx w')
      clear hv e1 e2 hx
      go_enter Tryd.func25, Tryd.ntmps25
      go_wp2_with (first
        | (go_at_call 27; refine (refValid_any adr n c P T _ hn HR.out).mono ?_; rintro e w1 h1; obtain ⟨rfl, g1⟩ := h1.gr; clear h1; rw [EV.out])
        | (go_at_call 69; (with_reducible refine (C1.out _).mono ?_); rintro e w2 ⟨rfl, rfl⟩))
      go_ret2
      exact ⟨none, 0, rfl, Nat.le_refl _, by unfold maxLen; omega, .inl rfl, g1⟩
    | true =>
      obtain ⟨I, hI, rfl⟩ := inH_nat hx
      have e1 : pasG n P T I = pastL n P T I := by unfold pasG; rw [hv, hx]; rfl
      have e2 : errP n P T I = 0 := by unfold errP; rw [hv, hx]; rfl
      rw [e1, e2]
      unfold pastL
      have C1 := Lib.hid (fun w' => refisHit_v adr n c hf hx w')
      clear hv e1 e2 hx
      go_enter Tryd.func25, Tryd.ntmps25
      go_wp2_with (first
        | (go_at_call 27; refine (refValid_any adr n c P T _ hn HR.out).mono ?_; rintro e w1 h1; obtain ⟨rfl, g1⟩ := h1.gr; clear h1; rw [EV.out])
        | (go_at_call 69; (with_reducible refine (C1.out _).mono ?_); rintro e w2 ⟨rfl, rfl⟩))
      have G1 := Lib.hid g1
      clear g1
      go_loopw [6, 7] (fun v s wr => ∃ k : Nat, k ≤ n ∧ s = .int .i64 k ∧ OwnI w 3 wr v (els (fun i => bf P T i I) k).length (nf (els (fun i => bf P T i I) n))) (fun _ s _ => n - (intOf s).toNat)
      case atStart => exact ⟨0, Nat.zero_le _, rfl, OwnI.nil' G1.out 3 _⟩
      case round =>
        obtain ⟨k, hk, rfl, hown⟩ := hrel
        by_cases hlt : k < n
        · have C := Lib.hid (fun w' hr => before_b adr n c P T w' HV.out k I hlt hI hr)
          cases hb : bf P T k I with
          | true =>
            rw [hb] at C
            have E := Lib.hid (nf_at (p := fun i => bf P T i I) hlt hb)
            have S := Lib.hid (show (els (fun i => bf P T i I) (k + 1)).length = (els (fun i => bf P T i I) k).length + 1 by rw [els_succ]; simp [hb])
            have K := Lib.hid (show (els (fun i => bf P T i I) k).length < 1000000000 by have := cnt_le (fun i => bf P T i I) k; rw [els_length]; omega)
            clear hb
            go_wp2_with (first
              | (go_at_call 60; refine (C.out _ (HR.out.gr hown.2)).mono ?_; rintro e w2 ⟨rfl, g2⟩; have ow := hown.gr g2)
              | (at_builtin; go_must (refine wpList_app_int rfl _ _ 23 3 rfl Tryd.underlying23 Tryd.info3 _ _ _ rfl (ow.alloc _) _ _ rfl (cell_new1 _ _ _) E.out K.out ?_); intro v1 w1 hown1 _))
            go_roundw
            case rel => exact ⟨k + 1, hlt, by go_num, by rw [S.out]; exact hown1⟩
            case measure => simp [intOf]; omega
          | false =>
            rw [hb] at C
            have S := Lib.hid (show els (fun i => bf P T i I) (k + 1) = els (fun i => bf P T i I) k by rw [els_succ]; simp [hb])
            clear hb
            go_wp2_with (go_at_call 60; refine (C.out _ (HR.out.gr hown.2)).mono ?_; rintro e w2 ⟨rfl, g2⟩; have ow := hown.gr g2)
            go_roundw
            case rel => exact ⟨k + 1, hlt, by go_num, by rw [S.out]; exact ow⟩
            case measure => simp [intOf]; omega
        · obtain rfl : k = n := by omega
          go_wp2_with fail
          go_ret2
          obtain ⟨a, c, rfl, h1, h2, h3⟩ := hown.rd
          exact ⟨a, c, rfl, h1, h2, h3, hown.2⟩

set_option maxHeartbeats 1000000 in
theorem refBefore_any (adr : Option Addr) (n c : Nat) (P T : Nat → Int) (x y : Int) (w : World) (hn : n ≤ 1000) (hr : RdM w adr n P T) :
    Calls Tryd.prog 23 #[.slice adr n c, .int .i64 x, .int .i64 y] w (RetBE (befG n P T x y) (errB n P T x y) w) := by
  have HR := Lib.hid hr
  clear hr
  cases hv : vH n P T with
  | false =>
    have HV := Lib.hid hv
    have e1 : befG n P T x y = false := by unfold befG; rw [hv]; rfl
    have e2 : errB n P T x y = 20 := by unfold errB; rw [hv]; rfl
    rw [e1, e2]
    clear hv e1 e2
    go_enter Tryd.func23, Tryd.ntmps23
    go_wp2_with (go_at_call 27; refine (refValid_any adr n c P T _ hn HR.out).mono ?_; rintro e w1 h1; obtain ⟨rfl, g1⟩ := h1.gr; clear h1; rw [HV.out])
    go_ret2
    exact ⟨rfl, g1⟩
  | true =>
    have HV := Lib.hid (vH_iff.1 hv)
    have EV := Lib.hid hv
    have hf := HV.out.few
    cases hx : inH n x with
    | false =>
      have e1 : befG n P T x y = false := by unfold befG; rw [hx]; simp
      have e2 : errB n P T x y = 2 := by unfold errB; rw [hv, hx]; rfl
      rw [e1, e2]
      have C1 := Lib.hid (fun w' => refisHit_v adr n c hf hx w')
      clear hv e1 e2 hx
      go_enter Tryd.func23, Tryd.ntmps23
      go_wp2_with (first
        | (go_at_call 27; refine (refValid_any adr n c P T _ hn HR.out).mono ?_; rintro e w1 h1; obtain ⟨rfl, g1⟩ := h1.gr; clear h1; rw [EV.out])
        | (go_at_call 69; (with_reducible refine (C1.out _).mono ?_); rintro e w2 ⟨rfl, rfl⟩))
      go_ret2
      exact ⟨rfl, g1⟩
    | true =>
      cases hy : inH n y with
      | false =>
        have e1 : befG n P T x y = false := by unfold befG; rw [hy]; simp
        have e2 : errB n P T x y = 2 := by unfold errB; rw [hv, hx, hy]; rfl
        rw [e1, e2]
        have C1 := Lib.hid (fun w' => refisHit_v adr n c hf hx w')
        have C2 := Lib.hid (fun w' => refisHit_v adr n c hf hy w')
        clear hv e1 e2 hx hy
        go_enter Tryd.func23, Tryd.ntmps23
        go_wp2_with (first
          | (go_at_call 27; refine (refValid_any adr n c P T _ hn HR.out).mono ?_; rintro e w1 h1; obtain ⟨rfl, g1⟩ := h1.gr; clear h1; rw [EV.out])
          | (go_at_call 69; (with_reducible refine (C1.out _).mono ?_); rintro e w2 ⟨rfl, rfl⟩)
          | (go_at_call 69; (with_reducible refine (C2.out _).mono ?_); rintro e w2 ⟨rfl, rfl⟩))
        go_ret2
        exact ⟨rfl, g1⟩
      | true =>
        obtain ⟨I, hI, rfl⟩ := inH_nat hx
        obtain ⟨J, hJ, rfl⟩ := inH_nat hy
        have e1 : befG n P T I J = bf P T I J := by unfold befG; rw [hv, hx, hy]; rfl
        have e2 : errB n P T I J = 0 := by unfold errB; rw [hv, hx, hy]; rfl
        rw [e1, e2]
        have C1 := Lib.hid (fun w' => refisHit_v adr n c hf hx w')
        have C2 := Lib.hid (fun w' => refisHit_v adr n c hf hy w')
        have C3 := Lib.hid (fun w' hr => before_b adr n c P T w' HV.out I J hI hJ hr)
        clear hv e1 e2 hx hy
        generalize bf P T I J = v at C3
        go_enter Tryd.func23, Tryd.ntmps23
        go_wp2_with (first
          | (go_at_call 27; refine (refValid_any adr n c P T _ hn HR.out).mono ?_; rintro e w1 h1; obtain ⟨rfl, g1⟩ := h1.gr; clear h1; rw [EV.out])
          | (go_at_call 69; (with_reducible refine (C1.out _).mono ?_); rintro e w2 ⟨rfl, rfl⟩)
          | (go_at_call 69; (with_reducible refine (C2.out _).mono ?_); rintro e w2 ⟨rfl, rfl⟩)
          | (go_at_call 60; refine (C3.out _ (HR.out.gr g1)).mono ?_; rintro e w2 ⟨rfl, g2⟩))
        go_ret2
        exact ⟨rfl, g1.trans g2⟩

end Go.Proofs.YthgbnjndljjbgaaDoor
