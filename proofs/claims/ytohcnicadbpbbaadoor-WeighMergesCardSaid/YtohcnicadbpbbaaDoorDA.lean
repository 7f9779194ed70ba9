/- Contracts of chapter 7: the number of trailing zeros; which of two lists comes first. -/
import Derived.Test.YtohcnicadbpbbaaDoorP11
import Derived.Shelf.Spec.TrailingZeros
import Derived.Test.YtohcnicadbpbbaaDoorShels
namespace Go.Proofs.YtohcnicadbpbbaaDoor
open Go.RowKit Go.Firn Go.Sort

/-- The table of the library, in its variable. -/
def Tab (w : World) : Prop := TabAt 1 Lib.deBruijn64tab w
theorem Tab.gr {w w' : World} (h : Tab w) (g : Gr w w') : Tab w' := fun j hj => g.cell (h j hj)

theorem tz64_core (x k idx : Nat) (w : World) (hx0 : ((x : Int) == 0) = false)
    (key : IntKind.u64.wrap (bits BinOp.and IntKind.u64 (x : Int) (IntKind.u64.wrap (-(x : Int))) * 285870213051353865) / 288230376151711744 = (idx : Int))
    (hi : idx < 64) (hk : k < 64) (hcell : w.cell? ⟨1, idx, none⟩ = some (.int .u8 k)) :
    Calls Tryd.prog 119 #[.int .u64 x] w fun e w' => e = .returned (.int .i64 k) ∧ w = w' := by
  go_enter Tryd.func119, Tryd.ntmps119
  go_wp2_with (simp only [key])
  go_ret
  exact ⟨rfl, rfl⟩
theorem tz64_any (x : Nat) (w : World) (hx0 : x ≠ 0) (hx : x < 18446744073709551616) (hT : Tab w) :
    Calls Tryd.prog 119 #[.int .u64 x] w fun e w' => e = .returned (.int .i64 (Lib.ctz 64 x)) ∧ w = w' := by
  obtain ⟨hlow, hk⟩ := Lib.lowest_bit 64 x hx0 hx
  obtain ⟨hi, htab⟩ := Lib.deBruijn64_at _ hk
  have hcell := hT _ hi
  rw [htab] at hcell
  exact tz64_core x _ _ w (by simp; omega) (tz64_key x _ hx hx0 hlow) hi hk hcell
theorem tz_any (x : Nat) (w : World) (hx0 : x ≠ 0) (hx : x < 18446744073709551616) (hT : Tab w) :
    Calls Tryd.prog 99 #[.int .u64 x] w fun e w' => e = .returned (.int .i64 (Lib.ctz 64 x)) ∧ w = w' := by
  have C := Lib.hid (tz64_any x w hx0 hx hT)
  have hw : IntKind.u64.wrap (x : Int) = (x : Int) := by rw [IntKind.wrap_u64]; omega
  clear hT hx hx0
  go_enter Tryd.func99, Tryd.ntmps99
  go_wp2_with (go_at_call 119; (with_reducible refine C.out.mono ?_); rintro e w1 ⟨rfl, rfl⟩)
  go_ret
  exact ⟨rfl, rfl⟩

theorem nf_drop {L : List Nat} {k : Nat} (hk : k < L.length) : ∃ a r, L.drop k = a :: r ∧ nf L k = (a : Int) ∧ L.drop (k + 1) = r := by
  refine ⟨L[k], L.drop (k + 1), ?_, ?_, rfl⟩
  · rw [List.drop_eq_getElem_cons hk]
  · unfold nf; rw [List.getD_eq_getElem?_getD, List.getElem?_eq_getElem hk]; rfl
theorem lexI_cons (a b : Nat) (l m : List Nat) : lexI (a :: l) (b :: m) = if a < b then -1 else if b < a then 1 else lexI l m := rfl

set_option maxHeartbeats 1000000 in
theorem SlCompare_any (av bv : Option Addr) (c d : Nat) (L M : List Nat) (w : World) (hl : L.length ≤ 1000) (hm : M.length ≤ 1000) (hr : RdI w av L.length (nf L)) (hs : RdI w bv M.length (nf M)) :
    Calls Tryd.prog 102 #[.slice av L.length c, .slice bv M.length d] w fun e w' => e = .returned (.int .i64 (lexI L M)) ∧ w = w' := by
  have HR := Lib.hid hr
  have HS := Lib.hid hs
  obtain ⟨V, hV⟩ : ∃ V, lexI L M = V := ⟨_, rfl⟩
  have H0 := Lib.hid (show lexI (L.drop 0) (M.drop 0) = V from hV)
  rw [hV]
  clear hr hs hV
  go_enter Tryd.func102, Tryd.ntmps102
  go_wp2
  go_loop [11] (fun i => ∃ k : Nat, k ≤ L.length ∧ k ≤ M.length ∧ i = .int .i64 k ∧ Hid (lexI (L.drop k) (M.drop k) = V)) (fun i => L.length - (intOf i).toNat)
  case atStart => exact ⟨0, by omega, by omega, rfl, H0⟩
  case round =>
    obtain ⟨k, hk1, hk2, rfl, HE⟩ := hrel
    by_cases hlt : k < L.length
    · have i1 : (k : Int) < (L.length : Int) := by omega
      obtain ⟨b, o, e1, hc⟩ := HR.out.at hlt
      have cx := hc k hlt
      subst e1
      clear hc
      by_cases hlm : k < M.length
      · have i2 : (k : Int) < (M.length : Int) := by omega
        obtain ⟨b2, o2, e2, hc2⟩ := HS.out.at hlm
        have cy := hc2 k hlm
        subst e2
        clear hc2
        obtain ⟨x, r, ex, nx, dx⟩ := nf_drop hlt
        obtain ⟨y, s, ey, ny, dy⟩ := nf_drop hlm
        rw [nx] at cx
        rw [ny] at cy
        have E2 := Lib.hid (show (if x < y then -1 else if y < x then 1 else lexI (L.drop (k + 1)) (M.drop (k + 1))) = V by rw [← HE.out, ex, ey, lexI_cons, dx, dy])
        clear ex nx dx ey ny dy HE
        have i3 : ¬ (k : Int) ≥ (M.length : Int) := by omega
        by_cases h1 : x < y
        · have C := Lib.hid (show ∀ w', Calls Tryd.prog 94 #[.int .i64 x, .int .i64 y] w' fun e w'' => e = .returned (.int .i64 (-1)) ∧ w'' = w' from fun w' => by
            have := Compare_any x y w'
            rwa [show cmpI (x : Int) y = -1 by unfold cmpI; rw [if_pos (by omega)]] at this)
          have EV := Lib.hid (show V = -1 by rw [← E2.out, if_pos h1])
          clear E2 h1
          go_wp2_with (go_at_call 94; (with_reducible refine (C.out _).mono ?_); rintro e w1 ⟨rfl, rfl⟩)
          go_ret
          exact ⟨(by rw [EV.out]; first | done | rfl), rfl⟩
        · by_cases h2 : y < x
          · have C := Lib.hid (show ∀ w', Calls Tryd.prog 94 #[.int .i64 x, .int .i64 y] w' fun e w'' => e = .returned (.int .i64 1) ∧ w'' = w' from fun w' => by
              have := Compare_any x y w'
              rwa [show cmpI (x : Int) y = 1 by unfold cmpI; rw [if_neg (by omega), if_pos (by omega)]] at this)
            have EV := Lib.hid (show V = 1 by rw [← E2.out, if_neg h1, if_pos h2])
            clear E2 h1 h2
            go_wp2_with (go_at_call 94; (with_reducible refine (C.out _).mono ?_); rintro e w1 ⟨rfl, rfl⟩)
            go_ret
            exact ⟨(by rw [EV.out]; first | done | rfl), rfl⟩
          · have C := Lib.hid (show ∀ w', Calls Tryd.prog 94 #[.int .i64 x, .int .i64 y] w' fun e w'' => e = .returned (.int .i64 0) ∧ w'' = w' from fun w' => by
              have := Compare_any x y w'
              rwa [show cmpI (x : Int) y = 0 by unfold cmpI; rw [if_neg (by omega), if_neg (by omega)]] at this)
            have EV := Lib.hid (show lexI (L.drop (k + 1)) (M.drop (k + 1)) = V by rw [← E2.out, if_neg h1, if_neg h2])
            clear E2 h1 h2
            go_wp2_with (go_at_call 94; (with_reducible refine (C.out _).mono ?_); rintro e w1 ⟨rfl, rfl⟩)
            go_round
            case rel => exact ⟨k + 1, by omega, by omega, by go_num, EV⟩
            case measure => simp [intOf]; omega
      · have i3 : (k : Int) ≥ (M.length : Int) := by omega
        have EV := Lib.hid (show V = 1 by
          have hm0 : M.drop k = [] := List.drop_eq_nil_of_le (by omega)
          obtain ⟨x, r, ex, _⟩ := nf_drop hlt
          rw [← HE.out, hm0, ex]; rfl)
        go_wp2
        go_ret
        exact ⟨(by rw [EV.out]; first | done | rfl), rfl⟩
    · have i1 : ¬ (k : Int) < (L.length : Int) := by omega
      have hl0 : L.drop k = [] := List.drop_eq_nil_of_le (by omega)
      by_cases hlm : L.length < M.length
      · have i2 : (L.length : Int) < (M.length : Int) := by omega
        have EV := Lib.hid (show V = -1 by
          obtain ⟨x, r, ex, _⟩ := nf_drop (L := M) (k := k) (by omega)
          rw [← HE.out, hl0, ex]; rfl)
        clear hl0
        go_wp2
        go_ret
        exact ⟨(by rw [EV.out]; first | done | rfl), rfl⟩
      · have i2 : ¬ (L.length : Int) < (M.length : Int) := by omega
        have EV := Lib.hid (show V = 0 by
          have hm0 : M.drop k = [] := List.drop_eq_nil_of_le (by omega)
          rw [← HE.out, hl0, hm0]; rfl)
        clear hl0
        go_wp2
        go_ret
        exact ⟨(by rw [EV.out]; first | done | rfl), rfl⟩

set_option maxHeartbeats 1000000 in
/-- The comparison of two cuts. -/
theorem cuts11_any (av bv : Option Addr) (c d : Nat) (L M : List Nat) (w : World) (hl : L.length ≤ 1000) (hm : M.length ≤ 1000) (hr : RdI w av L.length (nf L)) (hs : RdI w bv M.length (nf M)) :
    Calls Tryd.prog 101 #[.slice av L.length c, .slice bv M.length d] w fun e w' => e = .returned (.int .i64 (cfL L M)) ∧ ∃ q os', w' = grow (w.drewN q) os' := by
  have C := Lib.hid (SlCompare_any av bv c d L M w hl hm hr hs)
  have E := Lib.hid (show orI (cmpI L.length M.length) (lexI L M) = cfL L M from rfl)
  clear hr hs hl hm
  generalize lexI L M = y at *
  go_enter Tryd.func101, Tryd.ntmps101
  go_wp2_with (first
    | (go_at_call 94; (with_reducible refine (Compare_any _ _ _).mono ?_); rintro e w1 ⟨rfl, rfl⟩)
    | (go_at_call 102; (with_reducible refine C.out.mono ?_); rintro e w1 ⟨rfl, rfl⟩)
    | (go_at_call 93; (with_reducible refine (Or_any _ _ _ _ _ (cell_new2 _ _ _ _).1 (cell_new2 _ _ _ _).2).mono ?_); rintro e w1 ⟨rfl, rfl⟩))
  go_ret
  exact ⟨by rw [E.out]; rfl, 0, _, by rw [alloc_eq_grow]; rfl⟩

end Go.Proofs.YtohcnicadbpbbaaDoor
