/- Contracts of chapter 2: the longest chain. -/
import Derived.Test.YtjokheeegcilhaaDoorW34
import Derived.Test.YtjokheeegcilhaaDoorP17
namespace Go.Proofs.YtjokheeegcilhaaDoor
open Go.RowKit Go.Firn

/-- The longest chain, of an order. -/
def RetC (n : Nat) (P T : Nat → Int) (w : World) (e : Ending) (w' : World) : Prop :=
  ∃ a c, e = .returned (.slice a (chnL n P T).length c) ∧ (chnL n P T).length ≤ c ∧ c ≤ maxLen ∧ RdI w' a (chnL n P T).length (nf (chnL n P T)) ∧ Gr w w'

set_option maxHeartbeats 2000000 in
set_option maxRecDepth 20000 in
theorem chain_any {n p b1 b2 : Nat} {P T : Nat → Int} (hp : 1 ≤ n) (hn : n ≤ 14) (w : World) (hT : Tab w) (O : OrdB w p b1 b2 n (pastM n P T) (futM n P T)) :
    Calls Tryd.prog 87 #[.pointer (some ⟨p, 0, none⟩)] w (RetC n P T w) := by
  have HO := Lib.hid O
  have TT := Lib.hid hT
  have C1 := Lib.hid (heights_any hp hn w hT O)
  have C2 := Lib.hid (fun w' O => all_any (n := n) (p := p) (b1 := b1) (b2 := b2) (f := pastM n P T) (g := futM n P T) hn w' O)
  have C3 := Lib.hid (fun bo w' hr => Max_any bo n (ht n P T) w' hp hn (fun i _ => by have := ht_n (n := n) (P := P) (T := T) (i := i); omega) hr)
  have A16 := Lib.hid (els_all hn)
  have LT := Lib.hid (show 2 ^ n - 1 < 65536 from by have := pow14 hn; omega)
  have HL := Lib.hid (chnL_good (P := P) (T := T) hp).1
  have TL := Lib.hid (topH_le (n := n) (P := P) (T := T))
  have C4 := Lib.hid (fun x (hx : x < 65536) w' (hT : Tab w') => list_f x w' hx hT)
  have SS := Lib.hid (ChS.start (P := P) (T := T) hp)
  have TD := Lib.hid (show mx (ht n P T) n = topH n P T from rfl)
  clear O hT hp
  go_enter Tryd.func87, Tryd.ntmps87
  go_wp2_with (first
    | (go_at_call 105; (with_reducible refine C1.out.mono ?_); rintro e w1 ⟨bo, rfl, q1, q2, q3⟩; have R1 := Lib.hid q1; have G1 := Lib.hid q2; have S1 := Lib.hid q3; clear q1 q2 q3)
    | (go_at_call 75; (with_reducible refine (C2.out _ (HO.out.gr G1.out)).mono ?_); rintro e w2 ⟨rfl, rfl⟩)
    | (go_at_call 106; (with_reducible refine (C3.out bo _ R1.out).mono ?_); rintro e w3 ⟨rfl, rfl⟩))
  rw [TD.out]
  generalize 2 ^ n - 1 = s0 at *
  go_loopw [4, 5, 6] (fun so sf sw wr => ∃ (k s : Nat) (fr : Nat → Bool), sf = .int .u16 (s : Nat) ∧ sw = .int .i64 ((topH n P T - k : Nat) : Int) ∧ Hid (s < 65536) ∧ Hid (els s.testBit 16 = els fr n) ∧ Hid (ChS n P T k fr) ∧ OwnI w1 3 wr so k (nf (chnL n P T))) (fun _ _ sw _ => (intOf sw).toNat)
  case atStart => exact ⟨0, s0, _, rfl, by rw [Nat.sub_zero], LT, A16, SS, OwnI.nil w1 3 _⟩
  case round =>
    obtain ⟨k, s, fr, rfl, rfl, hs, hels, hch, hown⟩ := hrel
    have kle := hch.out.1
    by_cases hlt : k < topH n P T
    · have CL := Lib.hid (C4.out s hs.out wr (TT.out.gr (G1.out.trans hown.2)))
      rw [hels.out] at CL
      obtain ⟨w0, hw0⟩ : ∃ w0, topH n P T - k = w0 + 1 := ⟨topH n P T - k - 1, by omega⟩
      have W0 := Lib.hid hw0
      have EX := Lib.hid (hch.out.ex hlt)
      have ST := Lib.hid (fun j => hch.out.step (j := j) hlt)
      have LL := Lib.hid (fun q hq => els_lt (p := fr) (n := n) (i := q) hq)
      have KK := Lib.hid (show k < 1000000000 by have := TL.out; omega)
      have L14 := Lib.hid (show (els fr n).length ≤ n by rw [els_length]; exact cnt_le _ _)
      have w00 : w0 ≤ n := by have := TL.out; omega
      have g1 : (0 : Int) < (w0 : Int) + 1 := by omega
      have EW := Lib.hid (show ((topH n P T - (k + 1) : Nat) : Int) = (w0 : Int) by omega)
      rw [hw0, show ((w0 + 1 : Nat) : Int) = (w0 : Int) + 1 by omega]
      rw [hw0] at EX ST
      clear hw0
      generalize els fr n = L at CL EX ST LL L14
      clear hlt kle
      go_wp2_with (go_at_call 70; (with_reducible refine CL.out.mono ?_); rintro e w3 ⟨a, c, rfl, q1, q2, q3, q4, q5⟩; have R3 := Lib.hid q3; have G3 := Lib.hid q4; clear q1 q2 q3 q4 q5)
      have OW3 := Lib.hid (hown.gr G3.out)
      have TT3 := Lib.hid (TT.out.gr (G1.out.trans OW3.out.2))
      have HH3 := Lib.hid (R1.out.gr OW3.out.2)
      have HO3 := Lib.hid (HO.out.gr (G1.out.trans OW3.out.2))
      clear hown
      go_loopw [4, 5, 22] (fun so sf sj wx => ∃ j : Nat, so = u4 ∧ sf = .int .u16 (s : Nat) ∧ sj = .int .i64 (j : Nat) ∧ j ≤ L.length ∧ wx = w3 ∧ Hid (∀ q, q < j → ¬ ht n P T (L.getD q 0) = w0 + 1)) (fun _ _ sj _ => L.length - (intOf sj).toNat)
      case atStart => exact ⟨0, rfl, rfl, rfl, Nat.zero_le _, rfl, fun q hq => by omega⟩
      case round =>
        obtain ⟨j, rfl, rfl, rfl, hj, rfl, hno⟩ := hrel
        have hjl : j < L.length := by
          refine Nat.lt_of_le_of_ne hj fun e => ?_
          obtain ⟨j', h1, h2⟩ := EX.out
          exact hno.out j' (by omega) h2
        obtain ⟨b, o, rfl, hc⟩ := R3.out.at hjl
        have cj := hc j hjl
        have hx := (LL.out j hjl).1
        have STj := Lib.hid (fun hp => ST.out j hjl hp hno.out)
        have HNO := Lib.hid hno.out
        have LX := Lib.hid (show ∀ q, q = L.getD j 0 → True from fun _ _ => trivial)
        unfold nf at cj
        have NEXT := Lib.hid (show ¬ ht n P T (L.getD j 0) = w0 + 1 → ∀ q, q < j + 1 → ¬ ht n P T (L.getD q 0) = w0 + 1 from fun h q hq => by
          by_cases e : q = j
          · subst e; exact h
          · exact HNO.out q (by omega))
        generalize L.getD j 0 = x at cj hx STj NEXT LX
        have ch := (HH3.out x hx).1
        rw [iV_cell] at ch
        have j1 : (j : Int) < (L.length : Int) := by omega
        have l14 := L14.out
        have x0 : (0 : Int) ≤ (x : Int) := by omega
        have x1 : (x : Int) < (n : Int) := by omega
        clear hc hno LX
        by_cases hq : ht n P T x = w0 + 1
        · have STq := Lib.hid (STj.out hq)
          have EF := Lib.hid (show nf (chnL n P T) k = ((x : Nat) : Int) from by unfold nf; rw [STq.out.1])
          rw [hq] at ch
          have z1 : (((w0 + 1 : Nat) : Int) == (w0 : Int) + 1) = true := by simp
          have z2 : (((w0 : Nat) : Int) + 1 == (w0 : Int) + 1) = true := by simp
          have FL := Lib.hid (futL_16 (P := P) (T := T) hn x)
          have FM := Lib.hid (show futM n P T x < 65536 from by have := futM_lt (n := n) (P := P) (T := T) hn x; omega)
          clear hq
          go_wp2_with (at_builtin; go_must (refine wpList_app_int rfl _ _ 23 3 rfl Tryd.underlying23 Tryd.info3 _ _ _ rfl (OW3.out.alloc _) _ _ rfl (cell_new1 _ _ _) EF.out KK.out ?_); intro v1 w4 hown1 _; have o1 := (HO.out.gr (G1.out.trans hown1.2)).c1; have r2 := ((HO.out.gr (G1.out.trans hown1.2)).r2 x hx).1)
          go_roundw
          case rel => exact ⟨k + 1, futM n P T x, bf P T x, rfl, by rw [EW.out], FM, FL, Lib.hid STq.out.2, hown1⟩
          case measure => simp [intOf]
        · have NX := Lib.hid (NEXT.out hq)
          have z1 : (((ht n P T x : Nat) : Int) == (w0 : Int) + 1) = false := by simp; omega
          generalize ht n P T x = q at ch z1
          clear hq
          go_wp2_with fail
          go_roundw
          case rel => exact ⟨j + 1, rfl, rfl, by go_num, hjl, trivial, NX⟩
          case measure => simp [intOf]; omega
    · have e : k = topH n P T := by omega
      rw [e, Nat.sub_self]
      rw [e, ← HL.out] at hown
      go_wp2_with fail
      go_ret
      obtain ⟨a, c, rfl, h1, h2, h3⟩ := hown.rd
      exact ⟨a, c, rfl, h1, h2, h3, G1.out.trans hown.2⟩

theorem Chain_ok (adr : Option Addr) (n c : Nat) (P T : Nat → Int) (w : World) (V : VH n P T) (hw : WfH n P T) (hr : RdM w adr n P T) (hT : Tab w) :
    Calls Tryd.prog 45 #[.slice adr n c] w (RetIs (chnL n P T).length (nf (chnL n P T)) 0 w) := by
  have HW := Lib.hid hw
  have HR := Lib.hid hr
  have TT := Lib.hid hT
  have HV := Lib.hid V
  have hf := V.few
  have hp := V.pos
  clear hw hr hT V
  go_enter Tryd.func45, Tryd.ntmps45
  go_wp2_with (first
    | (go_at_call 66; refine (open_any adr n c P T _ HV.out HW.out HR.out).mono ?_; rintro e w1 ⟨p, b1, b2, rfl, O, g1, l1⟩; have O1 := Lib.hid O; clear O)
    | (go_at_call 87; refine (chain_any hp hf _ (TT.out.gr g1) O1.out).mono ?_; rintro e w2 ⟨a, c, rfl, r1, r2, r3, g2⟩)
    | go_in)
  go_ret2
  exact ⟨a, c, rfl, r1, r2, r3, g1.trans g2⟩

end Go.Proofs.YtjokheeegcilhaaDoor
