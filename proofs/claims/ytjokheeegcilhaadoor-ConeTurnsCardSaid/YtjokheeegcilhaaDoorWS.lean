/- Contracts of chapter 2: the reference's count of chains, and its longest chain where hits are not valid. -/
import Derived.Test.YtjokheeegcilhaaDoorWQ
import Derived.Test.YtjokheeegcilhaaDoorPF
import Derived.Test.YtjokheeegcilhaaDoorWG
namespace Go.Proofs.YtjokheeegcilhaaDoor
open Go.RowKit Go.Firn

/-- Ints in a row. -/
def jV (g : Nat → Int) (i : Nat) : Value := .int .i64 (g i)
theorem jV_cell (g : Nat → Int) (i : Nat) : jV g i = .int .i64 (g i) := rfl
/-- A number and an error. -/
def RetNE (t E : Int) (w : World) (e : Ending) (w' : World) : Prop := e = .returned (.tuple #[.int .i64 t, .int .i64 E]) ∧ Gr w w'

/-- A row of counts while one is made anew. -/
def atC (rel : Nat → Nat → Bool) (f : Nat → Int) (a b : Nat) (y : Nat) : Int := if y = a then stp rel f a b else f y
theorem atC_same (rel : Nat → Nat → Bool) (f : Nat → Int) (a b : Nat) : atC rel f a b a = stp rel f a b := if_pos rfl
theorem atC_far (rel : Nat → Nat → Bool) (f : Nat → Int) {a b y : Nat} (h : y ≠ a) : atC rel f a b y = f y := if_neg h
theorem atC_put {w : World} {bk n a b : Nat} {rel : Nat → Nat → Bool} {f : Nat → Int} (h : RowG w bk n (jV (atC rel f a b))) {z : Int} (hz : z = stp rel f a (b + 1)) : RowG (w.setCell ⟨bk, a, none⟩ (.int .i64 z)) bk n (jV (atC rel f a (b + 1))) :=
  (h.put (j := a) _).congr fun i _ => by
    show (if i = a then _ else jV _ i) = jV _ i
    unfold jV
    by_cases e : i = a
    · subst e; rw [if_pos rfl, atC_same, hz]
    · rw [if_neg e, atC_far _ _ e, atC_far _ _ e]
/-- A round of the reference's count. -/
def RndC (n : Nat) (P T : Nat → Int) (r k : Nat) (f : Nat → Int) : Prop := Rnd (bf P T) n 14 (fun i => later n T i + 1) r k f
theorem RndC.bd {n : Nat} {P T : Nat → Int} {r k : Nat} {f : Nat → Int} (h : RndC n P T r k f) (hn : n ≤ 14) {a : Nat} (ha : a < n) : 0 ≤ f a ∧ f a ≤ 29192926025390625 := by
  have a1 := Rnd.bd h a ha
  have a2 := bgF_bd (P := P) (T := T) hn a
  unfold bgF at a2
  omega
theorem RndC.st {n : Nat} {P T : Nat → Int} {r k : Nat} {f : Nat → Int} (h : RndC n P T r k f) (hn : n ≤ 14) {a b : Nat} (hb : b ≤ n) : 1 ≤ stp (bf P T) f a b ∧ stp (bf P T) f a b ≤ 408700964355468751 := stp_bd hn h hb
theorem RndC.step {n : Nat} {P T : Nat → Int} {r k : Nat} {f : Nat → Int} (h : RndC n P T r k f) (hn : n ≤ 14) (hk : k < n) : RndC n P T r (k + 1) fun x => if x = k then stp (bf P T) f k n else f x :=
  Rnd.step (fun _ _ => Nat.succ_le_succ (Nat.zero_le _)) (fun _ _ _ hb hr => Nat.succ_lt_succ (later_lt hb (bf_time hr))) (fun a ha => by have := later_few (T := T) ha; show later n T a + 1 ≤ 14; omega) h hk hn
theorem RndC.fin {n : Nat} {P T : Nat → Int} {f : Nat → Int} (h : RndC n P T n 0 f) {a : Nat} (ha : a < n) : f a = bgF n P T a := Rnd.old h a ha (by have := later_few (T := T) ha; show later n T a + 1 ≤ n; omega)

set_option maxHeartbeats 4000000 in
set_option maxRecDepth 20000 in
theorem refChains_ok (adr : Option Addr) (n c : Nat) (P T : Nat → Int) (w : World) (V : VH n P T) (hr : RdM w adr n P T) : Calls Tryd.prog 56 #[.slice adr n c] w (RetNE (chC n P T) 0 w) := by
  have hfew := V.few
  have HV := Lib.hid V
  have HR := Lib.hid hr
  have C := Lib.hid ((refValid_any adr n c P T w (by omega) hr).mono fun _ _ h => h.b)
  rw [vH_iff.2 V] at C
  obtain ⟨cs, hcs, _, mk0⟩ := made Tryd.underlying23 Tryd.info3 rfl (by omega) n (by omega)
  clear V hr
  go_enter Tryd.func56, Tryd.ntmps56
  go_wp2_with (go_at_call 27; (with_reducible refine C.out.mono ?_); rintro e w1 ⟨rfl, g1⟩; have G1 := Lib.hid g1; clear g1)
  obtain ⟨bk, hbk⟩ : ∃ bk, bk = w1.heap.size := ⟨_, rfl⟩
  have R0 := Lib.hid ((RowG.new (w := w1) (e := 3) hbk.symm hcs).congr (V' := jV fun _ => 0) fun i _ => by rfl)
  have G0 := Lib.hid (G1.out.alloc (.cells cs 3))
  have B0 := Lib.hid (show w.heap.size ≤ bk by rw [hbk]; exact G1.out.size)
  rw [← hbk]
  clear hbk mk0 hcs G1
  go_wp2_with fail
  go_loopw [5] (fun s wr => ∃ (r : Nat) (f : Nat → Int), r ≤ n ∧ s = .int .i64 r ∧ Hid (RndC n P T r 0 f) ∧ Hid (RowG wr bk n (jV f)) ∧ Hid (Gr w wr)) (fun s _ => n - (intOf s).toNat)
  case atStart => exact ⟨0, _, Nat.zero_le _, rfl, Lib.hid (Rnd.start (bf P T) hfew fun _ _ => Nat.succ_le_succ (Nat.zero_le _)), R0, G0⟩
  case round =>
    clear R0 G0
    obtain ⟨r, f0, hr, rfl, hL0, hR0, hG0⟩ := hrel
    by_cases hlt : r < n
    · have i1 : (r : Int) < (n : Int) := by omega
      go_wp2_with fail
      go_loopw [6] (fun s wx => ∃ (a : Nat) (f : Nat → Int), a ≤ n ∧ s = .int .i64 a ∧ Hid (RndC n P T r a f) ∧ Hid (RowG wx bk n (jV f)) ∧ Hid (Gr w wx)) (fun s _ => n - (intOf s).toNat)
      case atStart => exact ⟨0, f0, Nat.zero_le _, rfl, hL0, hR0, hG0⟩
      case round =>
        clear hL0 hR0 hG0 f0
        obtain ⟨a, f, ha, rfl, hL, hR, hG⟩ := hrel
        by_cases hla : a < n
        · have i2 : (a : Int) < (n : Int) := by omega
          obtain ⟨d1, d2⟩ := hR.out a hla
          rw [jV_cell] at d1
          have R1 := Lib.hid (show RowG (wr.setCell ⟨bk, a, none⟩ (.int .i64 1)) bk n (jV (atC (bf P T) f a 0)) from (hR.out.put (j := a) _).congr fun i _ => by
            show (if i = a then _ else jV _ i) = jV _ i
            unfold jV
            by_cases e : i = a
            · subst e; rw [if_pos rfl, atC_same]; rfl
            · rw [if_neg e, atC_far _ _ e])
          have G1 := Lib.hid (hG.out.setAt (b := bk) (j := a) B0.out (.int .i64 1))
          have N1 := Lib.hid (hL.out.step hfew hla)
          have ST := Lib.hid (fun b (hb : b ≤ n) => hL.out.st hfew (a := a) hb)
          have BD := Lib.hid (fun b (hb : b < n) => hL.out.bd hfew hb)
          go_wp2_with fail
          go_loopw [7] (fun s wy => ∃ b : Nat, b ≤ n ∧ s = .int .i64 b ∧ Hid (RowG wy bk n (jV (atC (bf P T) f a b))) ∧ Hid (Gr w wy)) (fun s _ => n - (intOf s).toNat)
          case atStart => exact ⟨0, Nat.zero_le _, rfl, R1, G1⟩
          case round =>
            clear R1 G1 d1 d2 hR hG hL
            obtain ⟨b, hb, rfl, hQ, hH⟩ := hrel
            by_cases hlb : b < n
            · have i3 : (b : Int) < (n : Int) := by omega
              have S := Lib.hid (before_b adr n c P T wr HV.out a b hla hlb (HR.out.gr hH.out))
              cases hbf : bf P T a b with
              | true =>
                have ne : b ≠ a := fun e => by rw [e, bf_self] at hbf; cases hbf
                have t1 := ST.out b (by omega)
                have t2 := BD.out b hlb
                have E2 := Lib.hid (show stp (bf P T) f a b + f b = stp (bf P T) f a (b + 1) by rw [stp_succ, if_pos hbf])
                rw [hbf] at S
                clear hbf
                have PUT := Lib.hid (fun (w' : World) z h hz => atC_put (w := w') (bk := bk) (n := n) (a := a) (b := b) (rel := bf P T) (f := f) (z := z) h hz)
                have C1 := Lib.hid (fun w' (h : RowG w' bk n (jV (atC (bf P T) f a b))) => show w'.cell? ⟨bk, a, none⟩ = some (.int .i64 (stp (bf P T) f a b)) ∧ w'.frozen? ⟨bk, a, none⟩ = false from by have := h a hla; rwa [jV_cell, atC_same] at this)
                have C2 := Lib.hid (fun w' (h : RowG w' bk n (jV (atC (bf P T) f a b))) => show w'.cell? ⟨bk, b, none⟩ = some (.int .i64 (f b)) from by have := (h b hlb).1; rwa [jV_cell, atC_far _ _ ne] at this)
                generalize stp (bf P T) f a b = m at *
                generalize f b = q at *
                have e1 : IntKind.i64.wrap (m + q) = m + q := IntWalk.i64_in _ (by omega)
                have e2 : wrap64 (m + q) = m + q := IntWalk.wrap64_in _ (by omega)
                clear t1 t2
                go_upto_region 15 with (first
                  | (go_at_call 60; (with_reducible refine S.out.mono ?_); rintro e w2 ⟨rfl, g2⟩; have H3 := Lib.hid (hH.out.trans g2); have Q3 := Lib.hid (hQ.out.gr g2)))
                obtain ⟨c1, f1⟩ := C1.out _ Q3.out
                have c2 := C2.out _ Q3.out
                have R2 := Lib.hid (PUT.out _ _ Q3.out E2.out).drew
                have G2 := Lib.hid (H3.out.setAt (b := bk) (j := a) B0.out (.int .i64 (m + q))).drew
                go_region
                clear c1 f1 c2
                go_wp2_with fail
                go_roundw
                case rel => exact ⟨b + 1, hlb, by go_num, R2, G2⟩
                case measure => simp [intOf]; omega
              | false =>
                have E := Lib.hid (show stp (bf P T) f a (b + 1) = stp (bf P T) f a b by rw [stp_succ, if_neg (by simp [hbf]), Int.add_zero])
                rw [hbf] at S
                clear hbf
                have Q2 := Lib.hid (hQ.out.congr (V' := jV (atC (bf P T) f a (b + 1))) fun i _ => by unfold jV atC; rw [E.out])
                go_wp2_with (go_at_call 60; (with_reducible refine S.out.mono ?_); rintro e w2 ⟨rfl, g2⟩; have H3 := Lib.hid (hH.out.trans g2); have Q3 := Lib.hid (Q2.out.gr g2))
                go_roundw
                case rel => exact ⟨b + 1, hlb, by go_num, Q3, H3⟩
                case measure => simp [intOf]; omega
            · obtain rfl : b = n := by omega
              have i3 : ¬ (b : Int) < (b : Int) := by omega
              go_wp2_with fail
              go_roundw
              case rel => exact ⟨a + 1, _, hla, by go_num, N1, hQ, hH⟩
              case measure => simp [intOf]; omega
        · obtain rfl : a = n := by omega
          have i3 : ¬ (a : Int) < (a : Int) := by omega
          go_wp2_with fail
          go_roundw
          case rel => exact ⟨r + 1, f, hlt, by go_num, Lib.hid (Rnd.next hL.out), hR, hG⟩
          case measure => simp [intOf]; omega
    · obtain rfl : r = n := by omega
      have i3 : ¬ (r : Int) < (r : Int) := by omega
      have RW := Lib.hid (hR0.out.congr (V' := jV (bgF r P T)) fun i hi => by unfold jV; rw [hL0.out.fin hi])
      have BB := Lib.hid (fun k => bgF_bd (P := P) (T := T) hfew k)
      have SB := Lib.hid (fun k => show 0 ≤ sg (bgF r P T) k ∧ sg (bgF r P T) k ≤ 29192926025390625 * (k : Int) from sg_bd fun i _ => bgF_bd hfew i)
      have SS := Lib.hid (fun k => show sg (bgF r P T) k + bgF r P T k = sg (bgF r P T) (k + 1) from rfl)
      clear hL0 hR0
      go_wp2_with fail
      go_loopw [8, 9] (fun ss sk wx => ∃ k : Nat, k ≤ r ∧ ss = .int .i64 (sg (bgF r P T) k) ∧ sk = .int .i64 k ∧ Hid (RowG wx bk r (jV (bgF r P T))) ∧ Hid (Gr w wx)) (fun _ sk _ => r - (intOf sk).toNat)
      case atStart => exact ⟨0, Nat.zero_le _, rfl, rfl, RW, hG0⟩
      case round =>
        clear hG0 RW
        obtain ⟨k, hk, rfl, rfl, hR, hG⟩ := hrel
        by_cases hlk : k < r
        · have i3 : (k : Int) < (r : Int) := by omega
          have ck := (hR.out k hlk).1
          rw [jV_cell] at ck
          have b1 := BB.out k
          have b2 := SB.out k
          have e3 := SS.out k
          have E3 := Lib.hid e3
          clear e3
          generalize bgF r P T k = q at *
          generalize sg (bgF r P T) k = s at *
          have e1 : IntKind.i64.wrap (s + q) = s + q := IntWalk.i64_in _ (by omega)
          have e2 : wrap64 (s + q) = s + q := IntWalk.wrap64_in _ (by omega)
          clear b1 b2
          go_wp2_with fail
          go_roundw
          case rel => exact ⟨k + 1, hlk, by rw [← E3.out], by go_num, hR, hG⟩
          case measure => simp [intOf]; omega
        · obtain rfl : k = r := by omega
          have i4 : ¬ (k : Int) < (k : Int) := by omega
          go_wp2_with fail
          exact bodyPost_ret (v := .tuple #[.int .i64 (chC k P T), .int .i64 0]) (by simp [results, Tryd.results56, go_sem, chC]) rfl ⟨rfl, hG.out⟩

set_option maxHeartbeats 1000000 in
theorem refChains_no (adr : Option Addr) (n c : Nat) (P T : Nat → Int) (w : World) (hn : n ≤ 1000) (hr : RdM w adr n P T) (hv : vH n P T = false) : Calls Tryd.prog 56 #[.slice adr n c] w (RetNE 0 20 w) := by
  have C := Lib.hid ((refValid_any adr n c P T w hn hr).mono fun _ _ h => h.b)
  rw [hv] at C
  go_enter Tryd.func56, Tryd.ntmps56
  go_wp2_with (go_at_call 27; (with_reducible refine C.out.mono ?_); rintro e w1 ⟨rfl, g1⟩; have G1 := Lib.hid g1; clear g1)
  exact bodyPost_ret (v := .tuple #[.int .i64 0, .int .i64 20]) (by simp [results, Tryd.results56, go_sem]) rfl ⟨rfl, G1.out⟩

set_option maxHeartbeats 1000000 in
theorem refChain_no (adr : Option Addr) (n c : Nat) (P T : Nat → Int) (w : World) (hn : n ≤ 1000) (hr : RdM w adr n P T) (hv : vH n P T = false) : Calls Tryd.prog 54 #[.slice adr n c] w (RetIs 0 (nf []) 20 w) := by
  have C := Lib.hid ((refValid_any adr n c P T w hn hr).mono fun _ _ h => h.b)
  rw [hv] at C
  go_enter Tryd.func54, Tryd.ntmps54
  go_wp2_with (go_at_call 27; (with_reducible refine C.out.mono ?_); rintro e w1 ⟨rfl, g1⟩; have G1 := Lib.hid g1; clear g1)
  exact bodyPost_ret (v := .tuple #[.slice none 0 0, .int .i64 20]) (by simp [results, Tryd.results54, go_sem]) rfl ⟨none, 0, rfl, Nat.le_refl _, by unfold maxLen; omega, .inl rfl, G1.out⟩

end Go.Proofs.YtjokheeegcilhaaDoor
