/- Contracts of chapter 2: the search of a hit that follows another one. -/
import Derived.Test.YtjokheeegcilhaaDoorWF
import Derived.Test.YtjokheeegcilhaaDoorCow
import Derived.Test.YtjokheeegcilhaaDoorPB
namespace Go.Proofs.YtjokheeegcilhaaDoor
open Go.RowKit Go.Firn

def X3 (bn bp bt : Nat) (k : Nat) : Prop := k = bn ∨ k = bp ∨ k = bt
/-- The two rows of a matching, and the set of what was tried. -/
structure Fol (w : World) (bn bp bt n : Nat) (nx pv : Nat → Int) (s : Nat) : Prop where
  r1 : RowG w bn n (zV nx)
  r2 : RowG w bp n (zV pv)
  ct : w.cell? ⟨bt, 0, none⟩ = some (.int .u16 (s : Nat))
  ft : w.frozen? ⟨bt, 0, none⟩ = false
theorem Fol.gr {w w' : World} {bn bp bt n : Nat} {nx pv : Nat → Int} {s : Nat} (F : Fol w bn bp bt n nx pv s) (g : Gr w w') : Fol w' bn bp bt n nx pv s :=
  ⟨F.r1.gr g, F.r2.gr g, g.cell F.ct, by rw [Below.frozen g (World.block_lt_of_cell? w _ F.ct)]; exact F.ft⟩
theorem Fol.mark {w : World} {bn bp bt n : Nat} {nx pv : Nat → Int} {s : Nat} (F : Fol w bn bp bt n nx pv s) (h1 : bn ≠ bt) (h2 : bp ≠ bt) (t : Nat) :
    Fol (w.setCell ⟨bt, 0, none⟩ (.int .u16 (t : Nat))).drew bn bp bt n nx pv t :=
  ⟨(F.r1.far h1.symm _).drew, (F.r2.far h2.symm _).drew, World.cell?_setCell_same _ _ _ F.ct, by have := F.ft; simpa using this⟩
theorem Fol.lay {w : World} {bn bp bt n : Nat} {nx pv : Nat → Int} {s : Nat} (F : Fol w bn bp bt n nx pv s) (h0 : bn ≠ bp) (h1 : bn ≠ bt) (h2 : bp ≠ bt) (i k : Nat) :
    Fol ((w.setCell ⟨bn, i, none⟩ (.int .i64 (k : Nat))).setCell ⟨bp, k, none⟩ (.int .i64 (i : Nat))) bn bp bt n (lay2 nx i k) (lay2 pv k i) s :=
  ⟨((F.r1.put (j := i) (.int .i64 (k : Nat))).far h0.symm _).congr fun y _ => by
      show (if y = i then _ else zV nx y) = _
      unfold zV lay2
      by_cases e : y = i
      · rw [if_pos e, if_pos e]
      · rw [if_neg e, if_neg e],
    ((F.r2.far h0 _).put (j := k) (.int .i64 (i : Nat))).congr fun y _ => by
      show (if y = k then _ else zV pv y) = _
      unfold zV lay2
      by_cases e : y = k
      · rw [if_pos e, if_pos e]
      · rw [if_neg e, if_neg e],
    by
      rw [World.cell?_setCell_other _ _ _ _ (fun e => h2 (congrArg Addr.block e)), World.cell?_setCell_other _ _ _ _ (fun e => h1 (congrArg Addr.block e))]
      exact F.ct,
    by have := F.ft; simpa using this⟩
theorem Fol.lt {w : World} {bn bp bt n : Nat} {nx pv : Nat → Int} {s : Nat} (F : Fol w bn bp bt n nx pv s) (hn : 0 < n) {k : Nat} (h : X3 bn bp bt k) : k < w.heap.size := by
  rcases h with rfl | rfl | rfl
  · exact World.block_lt_of_cell? w _ (F.r1 0 hn).1
  · exact World.block_lt_of_cell? w _ (F.r2 0 hn).1
  · exact World.block_lt_of_cell? w _ F.ct

theorem fut_bit {n : Nat} {P T : Nat → Int} {i j : Nat} (hj : j < n) : (futM n P T i).testBit j = bf P T i j := by
  unfold futM
  rw [mk_bit]
  simp [hj]

/-- What a search gives. -/
def FolR (n : Nat) (P T : Nat → Int) (bn bp bt : Nat) (nx pv : Nat → Int) (s i : Nat) (w : World) (e : Ending) (w' : World) : Prop :=
  Wx (X3 bn bp bt) w w' ∧ ∃ s', s' < 2 ^ n ∧
    ((e = .returned (.bool true) ∧ ∃ nx' pv', Aug n (bf P T) nx pv s.testBit i nx' pv' ∧ Fol w' bn bp bt n nx' pv' s') ∨
     (e = .returned (.bool false) ∧ Non n (bf P T) pv s.testBit s'.testBit i ∧ Fol w' bn bp bt n nx pv s'))

theorem cnt_sub {p q : Nat → Bool} {n : Nat} (h : ∀ i, p i = true → q i = true) : cnt p n ≤ cnt q n := by
  induction n with
  | zero => exact Nat.le_refl _
  | succ n ih =>
    rw [cnt, cnt]
    have := h n
    cases hp : p n with
    | true => rw [this hp]; simp; exact ih
    | false => simp; omega
theorem cnt_mark {s x n : Nat} (hx : x < n) (hb : s.testBit x = false) : cnt (s ||| 2 ^ x).testBit n = cnt s.testBit n + 1 := by
  induction n with
  | zero => omega
  | succ n ih =>
    rw [cnt, cnt, Nat.testBit_or, Nat.testBit_two_pow]
    by_cases e : x = n
    · subst e
      have : cnt (s ||| 2 ^ x).testBit x = cnt s.testBit x := cnt_congr fun i hi => by rw [Nat.testBit_or, Nat.testBit_two_pow]; simp; omega
      rw [this, hb]; simp
    · rw [ih (by omega)]
      simp [e]; omega

set_option maxHeartbeats 2000000 in
set_option maxRecDepth 20000 in
theorem follow_any {n p b1 b2 bn bp bt : Nat} {P T : Nat → Int} (hn : n ≤ 14) (cn cp : Nat) (hX : ¬X3 bn bp bt p ∧ ¬X3 bn bp bt b1 ∧ ¬X3 bn bp bt b2 ∧ ¬X3 bn bp bt 0) (h0 : bn ≠ bp) (h1 : bn ≠ bt) (h2 : bp ≠ bt) :
    ∀ (d i s : Nat) (nx pv : Nat → Int) (w : World), n - cnt s.testBit n < d → i < n → s < 2 ^ n → Mt n (bf P T) nx pv → (nx i < 0 ∨ ∃ c, s.testBit c = true ∧ nx i = (c : Nat)) →
      OrdB w p b1 b2 n (pastM n P T) (futM n P T) → Tab w → Fol w bn bp bt n nx pv s →
      Calls Tryd.prog 104 #[.pointer (some ⟨p, 0, none⟩), .int .i64 i, .slice (some ⟨bn, 0, none⟩) n cn, .slice (some ⟨bp, 0, none⟩) n cp, .pointer (some ⟨bt, 0, none⟩)] w (FolR n P T bn bp bt nx pv s i w) := by
  intro d
  induction d with
  | zero => intro i s nx pv w hd; omega
  | succ d ih =>
    intro i s nx pv w hd hi hs M hin O hT F
    have IH := Lib.hid ih
    have HM := Lib.hid M
    have HO := Lib.hid O
    have HT := Lib.hid hT
    have HF := Lib.hid F
    have HX := Lib.hid hX
    have HIN := Lib.hid hin
    have o1 := O.c1
    have r2 := (O.r2 i hi).1
    have i1 : (i : Int) < (n : Int) := by omega
    have f2 := futM_lt (n := n) (P := P) (T := T) hn i
    have C := Lib.hid (list_f (futM n P T i) w (by omega) hT)
    have L16 := Lib.hid (show (els (futM n P T i).testBit 16).length ≤ 16 by rw [els_length]; exact cnt_le _ _)
    have LN := Lib.hid (show ∀ q, q < (els (futM n P T i).testBit 16).length → (els (futM n P T i).testBit 16).getD q 0 < n ∧ bf P T i ((els (futM n P T i).testBit 16).getD q 0) = true from fun q hq => by
      obtain ⟨k1, k2⟩ := els_lt hq
      have hlt : (els (futM n P T i).testBit 16).getD q 0 < n := by
        rcases Nat.lt_or_ge ((els (futM n P T i).testBit 16).getD q 0) n with h | h
        · exact h
        · rw [bit_ge (show futM n P T i < 2 ^ n from mk_lt _ n) h] at k2; cases k2
      exact ⟨hlt, by rw [← fut_bit hlt]; exact k2⟩)
    have LA := Lib.hid (show ∀ k, k < n → bf P T i k = true → ∃ q, q < (els (futM n P T i).testBit 16).length ∧ (els (futM n P T i).testBit 16).getD q 0 = k from fun k hk hb => by
      have : k ∈ els (futM n P T i).testBit 16 := els_mem.2 ⟨by omega, by rw [fut_bit hk]; exact hb⟩
      obtain ⟨q, hq, e⟩ := List.getElem_of_mem this
      exact ⟨q, hq, by rw [List.getD, List.getElem?_eq_getElem hq]; exact e⟩)
    generalize els (futM n P T i).testBit 16 = L at C L16 LN LA
    clear ih M O hT F hX hin f2
    go_enter Tryd.func104, Tryd.ntmps104
    go_wp2_with (go_at_call 70; (with_reducible refine C.out.mono ?_); rintro e w1 ⟨a, cl, rfl, r1, r2', r3, g1, r5⟩; have R3 := Lib.hid r3; have R5 := Lib.hid r5; have G1 := Lib.hid g1; clear r3 r5 g1 r1 r2')
    go_loopw [22] (fun si wr => ∃ j sj : Nat, j ≤ L.length ∧ si = .int .i64 j ∧ Hid (sj < 2 ^ n) ∧ Hid (Fol wr bn bp bt n nx pv sj) ∧ Hid (Wx (X3 bn bp bt) w1 wr) ∧ Hid (Non1 n (bf P T) pv s.testBit sj.testBit) ∧ Hid (∀ q, q < j → sj.testBit (L.getD q 0) = true)) (fun si _ => L.length - (intOf si).toNat)
    case atStart => exact ⟨0, s, Nat.zero_le _, rfl, hs, HF.out.gr G1.out, Wx.refl _ _, Non1.refl _, fun q hq => by omega⟩
    case round =>
      obtain ⟨j, sj, hj, rfl, hsj, hF, hW, hN, hQ⟩ := hrel
      by_cases hlt : j < L.length
      · obtain ⟨b, o, rfl, q2, q3⟩ := R5.out.resolve_left (by omega)
        have nb : ¬X3 bn bp bt b := fun h => by have := HF.out.lt (by omega) h; omega
        obtain ⟨b', o', e9, hc⟩ := (R3.out.wx hW.out nb).at hlt
        simp at e9
        obtain ⟨rfl, rfl⟩ := e9
        have cj := hc j hlt
        obtain ⟨hx, hbx⟩ := LN.out j hlt
        have HBX := Lib.hid hbx
        have JQ := Lib.hid (show ∀ t : Nat, (∀ y, sj.testBit y = true → t.testBit y = true) → t.testBit (L.getD j 0) = true → ∀ q, q < j + 1 → t.testBit (L.getD q 0) = true from fun t ht htx q hq => by
          by_cases e : q = j
          · subst e; exact htx
          · exact ht _ (hQ.out q (by omega)))
        unfold nf at cj
        clear hc hbx
        generalize L.getD j 0 = x at cj hx HBX JQ
        have ct := hF.out.ct
        have ft := hF.out.ft
        have j1 : (j : Int) < (L.length : Int) := by omega
        have l16 := L16.out
        have s16 : sj < 65536 := by have := hsj.out; have := pow14 hn; omega
        cases hb : sj.testBit x with
        | true =>
          have S1 := Lib.hid (show ∀ w : World, Calls Tryd.prog 68 #[.int .u16 sj, .int .i64 x] w (fun e w' => e = .returned (.bool true) ∧ w = w') from fun w => by have := has_any sj x s16 (by omega) w; rw [hb] at this; exact this)
          have Q2 := Lib.hid (JQ.out sj (fun _ h => h) hb)
          clear hb s16
          go_wp2_with (go_at_call 68; (with_reducible refine (S1.out _).mono ?_); rintro e w2 ⟨rfl, rfl⟩)
          go_roundw
          case rel => exact ⟨j + 1, sj, hlt, by go_num, hsj, hF, hW, hN, Q2⟩
          case measure => simp [intOf]; omega
        | false =>
          have S1 := Lib.hid (show ∀ w : World, Calls Tryd.prog 68 #[.int .u16 sj, .int .i64 x] w (fun e w' => e = .returned (.bool false) ∧ w = w') from fun w => by have := has_any sj x s16 (by omega) w; rw [hb] at this; exact this)
          have e10 := shl_u16 (show x ≤ 15 by omega)
          have e11 := orp_u16 (x := sj) (a := x) s16 (by omega)
          have HB := Lib.hid hb
          clear hb s16
          go_upto_region 5 with (go_at_call 68; (with_reducible refine (S1.out _).mono ?_); rintro e w2 ⟨rfl, rfl⟩)
          go_region
          have F3 := Lib.hid (hF.out.mark h1 h2 (sj ||| 2 ^ x))
          have W3 := Lib.hid ((hW.out.set (bb := bt) (.inr (.inr rfl)) 0 (.int .u16 (sj ||| 2 ^ x : Nat))).drew)
          generalize (wr.setCell ⟨bt, 0, none⟩ (.int .u16 ((sj ||| 2 ^ x : Nat) : Int))).drew = w3 at F3 W3 ⊢
          have HS3 := Lib.hid (show sj ||| 2 ^ x < 2 ^ n from Nat.or_lt_two_pow hsj.out (Nat.pow_lt_pow_right (by omega) hx))
          have SX := Lib.hid (show (sj ||| 2 ^ x).testBit = fun y => sj.testBit y || decide (y = x) from funext fun y => by
            rw [Nat.testBit_or, Nat.testBit_two_pow]; congr 1; exact decide_eq_decide.2 eq_comm)
          have CX := Lib.hid (cnt_mark hx HB.out)
          have CS := Lib.hid (cnt_sub (n := n) hN.out.sub)
          have CN := Lib.hid (cnt_le (sj ||| 2 ^ x).testBit n)
          have BX := Lib.hid (show (sj ||| 2 ^ x).testBit x = true by rw [SX.out]; simp)
          generalize sj ||| 2 ^ x = t at F3 W3 HS3 SX CX CN BX ⊢
          have SB := Lib.hid (show s.testBit x = false from by
            cases h : s.testBit x with
            | false => rfl
            | true => have := hN.out.sub x h; rw [HB.out] at this; cases this)
          obtain ⟨d1, d2⟩ := F3.out.r2 x hx
          obtain ⟨c1, c2⟩ := F3.out.r1 i hi
          rw [zV_cell] at d1 c1
          have j2 : (x : Int) < (n : Int) := by omega
          clear e10 e11 ct ft cj S1
          by_cases hp : pv x < 0
          · have AU := Lib.hid (Aug.direct HM.out hi hx HBX.out SB.out hp)
            have FL := Lib.hid (F3.out.lay h0 h1 h2 i x)
            have W4 := Lib.hid ((W3.out.set (bb := bn) (.inl rfl) i (.int .i64 (x : Nat))).set (bb := bp) (.inr (.inl rfl)) x (.int .i64 (i : Nat)))
            go_wp2_with fail
            go_ret
            exact ⟨(Wx.of_gr G1.out).trans W4.out, t, HS3.out, .inl ⟨rfl, _, _, AU.out, FL.out⟩⟩
          · obtain ⟨i', hi', e2, e3⟩ := HM.out.bwd x hx (by omega)
            rw [e2] at d1
            have hp' : ¬ (i' : Int) < 0 := by omega
            have TB := Lib.hid (show Tab w3 from fun j hj => W3.out.cell (HT.out.gr G1.out j hj) HX.out.2.2.2)
            have C2 := Lib.hid (IH.out i' t nx pv w3 (by have := CX.out; have := CS.out; have := CN.out; omega) hi' HS3.out HM.out (.inr ⟨x, BX.out, e3⟩) ((HO.out.gr G1.out).wx W3.out HX.out.1 HX.out.2.1 HX.out.2.2.1) TB.out F3.out)
            have E2 := Lib.hid e2
            clear e2 e3 hp
            go_wp2_with fail
            go_at_call 104
            (with_reducible refine C2.out.mono ?_)
            rintro e w4 ⟨gx, s4, hs4, h4⟩
            have W4 := Lib.hid (W3.out.trans gx)
            have HS4 := Lib.hid hs4
            clear gx hs4 C2 IH c1 c2 d1 d2
            rcases h4 with ⟨rfl, nx', pv', A, F4⟩ | ⟨rfl, N, F4⟩
            · have HF4 := Lib.hid F4
              rw [SX.out] at A
              have AU := Lib.hid (Aug.through HM.out hi hx HBX.out HIN.out hN.out.sub HB.out E2.out hi' A)
              have FL := Lib.hid (F4.lay h0 h1 h2 i x)
              have W5 := Lib.hid ((W4.out.set (bb := bn) (.inl rfl) i (.int .i64 (x : Nat))).set (bb := bp) (.inr (.inl rfl)) x (.int .i64 (i : Nat)))
              obtain ⟨d1, d2⟩ := F4.r2 x hx
              obtain ⟨c1, c2⟩ := F4.r1 i hi
              rw [zV_cell] at d1 c1
              clear A F4
              go_wp2_with fail
              go_ret
              exact ⟨(Wx.of_gr G1.out).trans W5.out, s4, HS4.out, .inl ⟨rfl, _, _, AU.out, FL.out⟩⟩
            · have HF4 := Lib.hid F4
              have SB4 := Lib.hid N.sub
              rw [SX.out] at N
              have N4 := Lib.hid (hN.out.step hi' E2.out N)
              have Q4 := Lib.hid (JQ.out s4 (fun y hy => N.sub y (by rw [hy]; rfl)) (N.sub x (by simp)))
              clear N F4
              go_wp2_with fail
              go_roundw
              case rel => exact ⟨j + 1, s4, hlt, by go_num, HS4, HF4, W4, N4, Q4⟩
              case measure => simp [intOf]; omega
      · obtain rfl : j = L.length := by omega
        have AL := Lib.hid (show ∀ k, k < n → bf P T i k = true → sj.testBit k = true from fun k hk hb => by
          obtain ⟨q, hq, rfl⟩ := LA.out k hk hb
          exact hQ.out q hq)
        have l16 := L16.out
        go_wp2_with fail
        go_ret
        exact ⟨(Wx.of_gr G1.out).trans hW.out, sj, hsj.out, .inr ⟨rfl, hN.out.non AL.out, hF.out⟩⟩

end Go.Proofs.YtjokheeegcilhaaDoor
