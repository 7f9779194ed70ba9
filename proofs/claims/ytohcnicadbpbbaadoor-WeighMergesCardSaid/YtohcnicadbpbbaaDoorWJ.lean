/- Contracts of chapter 7: the cut of k of the reference, and what it keeps. -/
import Derived.Test.YtohcnicadbpbbaaDoorWI
namespace Go.Proofs.YtohcnicadbpbbaaDoor
open Go.RowKit Go.Firn

theorem setN_lt {R : Nat → Nat} : ∀ {k : Nat}, (∀ p, p < k → R p < 10) → setN R k < 1024
  | 0, _ => by show 0 < 1024; omega
  | k + 1, h => (or_fin (R k) (h k (by omega)) (setN R k) (setN_lt fun p hp => h p (by omega))).2
theorem shl_fin : ∀ r : Nat, r < 10 → wrap64 ((2 : Int) ^ r) = (2 : Int) ^ r ∧ IntKind.i64.wrap ((2 : Int) ^ r) = (2 : Int) ^ r := by decide +kernel
/-- The cut of k of the reference. -/
def cN (f g : Nat → Int) (n k : Nat) : List Nat := onL (setN (rowN f g n) k).testBit n

theorem kp_onL (f : Nat → Int) (p : Nat → Bool) : ∀ n, kp f (nf (onL p n)) (onL p n).length = sm (fun a => if p a then f a else 0) n
  | 0 => rfl
  | n + 1 => by
    show _ = sm (fun a => if p a then f a else 0) n + (if p n then f n else 0)
    rw [← kp_onL f p n, onL_succ]
    by_cases h : p n = true
    · rw [if_pos h, if_pos h]
      unfold kp
      rw [List.length_append]
      show sm _ (onL p n).length + f (nf (onL p n ++ [n]) (onL p n).length).toNat = _
      have e : nf (onL p n ++ [n]) (onL p n).length = (n : Int) := by unfold nf; simp
      rw [e]
      simp only [Int.toNat_natCast]
      congr 1
      refine sm_congr fun i hi => ?_
      have : nf (onL p n ++ [n]) i = nf (onL p n) i := by
        unfold nf
        simp only [List.getD_eq_getElem?_getD]
        rw [List.getElem?_append_left hi]
      rw [this]
    · rw [if_neg h, if_neg h]; simp
/-- What the cut of k keeps. -/
theorem kp_cut {f g : Nat → Int} (hf : ∀ i, 0 ≤ f i) (hg : ∀ i, 0 ≤ g i) {n k : Nat} (hn : 0 < n) (hk : k ≤ n) (q : Nat → Int) :
    kp q (nf (cN f g n k)) (cN f g n k).length = sm (fun p => q (rowN f g n p)) k := by
  have O := ord_row hf hg hn
  unfold cN
  rw [kp_onL]
  exact sm_set O.inj O.bd q hk

set_option maxHeartbeats 2000000 in
set_option maxRecDepth 100000 in
theorem refcut_any (a a2 : Option Addr) (n c d : Nat) (f g : Nat → Int) (k : Nat) (w : World) (hk : k ≤ n) (hr : RdI w a n f) (hs : RdI w a2 n g) (hf : ∀ i, 0 ≤ f i) (hg : ∀ i, 0 ≤ g i) (hv : VO n n f g) :
    Calls Tryd.prog 62 #[.agg #[.slice a n c, .slice a2 n d], .int .i64 k] w (RetI1 (cN f g n k).length (nf (cN f g n k)) w) := by
  have hn := hv.noise.few
  have hn0 := hv.noise.one
  obtain ⟨W0, hW0⟩ : ∃ W0, w.alloc (.cells #[.slice a n c, .slice a2 n d] 24) = W0 := ⟨_, rfl⟩
  have G0 := Lib.hid (show Gr w W0 by rw [← hW0]; exact (Gr.refl w).alloc _)
  have BX := Lib.hid (show BoxO W0 w.heap.size (.slice a n c) (.slice a2 n d) by rw [← hW0]; exact BoxO.new rfl)
  have CR := Lib.hid (fun w' (k : Gr w w') => refrow_any a a2 n c d f g w' hn (hr.gr k) (hs.gr k) hf hg hv.noise.ok hv.signal.ok)
  have OB := Lib.hid (fun p (hp : p < n) => Nat.lt_of_lt_of_le ((ord_row hf hg hn0).bd p hp) hn)
  have CO := Lib.hid (fun (s : Nat) (hs : s < 1024) (w' : World) => of_any a a2 n c n d s w' hn hs)
  have kn : (k : Int) ≤ (n : Int) := by omega
  have E := Lib.hid (show cN f g n k = onL (setN (rowN f g n) k).testBit n from rfl)
  rw [E.out]
  obtain ⟨p0, p1⟩ := BX.out
  clear hr hs hf hg hv E
  generalize rowN f g n = R at *
  go_enter Tryd.func62, Tryd.ntmps62
  go_wp2_with fail
  refine (CR.out _ G0.out).mono ?_
  rintro e w2 ⟨ar, cr, rfl, l1, l2, rd, g2⟩
  have G2 := Lib.hid g2
  obtain ⟨b3, o3, e3, h3⟩ := rd.at (show 0 < n by omega)
  subst e3
  have l3 : (k : Int) ≤ (cr : Int) := by omega
  have H3 := Lib.hid h3
  clear h3 g2 rd
  go_wp2_with fail
  go_loopw [5, 7, 13] (fun x _ i wr => ∃ j : Nat, j ≤ k ∧ i = .int .i64 j ∧ x = .int .i64 (setN R j : Nat) ∧ Hid (Gr w2 wr)) (fun _ _ i _ => k - (intOf i).toNat)
  case atStart => exact ⟨0, by omega, rfl, rfl, Lib.hid (by first | exact Gr.refl _ | exact (Gr.refl _).drew)⟩
  case round =>
    obtain ⟨j, hj0, rfl, rfl, HW⟩ := hrel
    by_cases hj : j < k
    · have hji : (j : Int) < (k : Int) := by omega
      have c3 := HW.out.cell (H3.out j (by omega))
      have rb := OB.out j (by omega)
      have sb := setN_lt (R := R) (k := j) (fun p hp => OB.out p (by omega))
      obtain ⟨s1, s2⟩ := shl_fin (R j) rb
      have BF := (or_fin (R j) rb (setN R j) sb).1
      have ES := Lib.hid (show setN R (j + 1) = setN R j ||| (1 <<< R j) from rfl)
      generalize setN R j = s at *
      generalize R j = r at *
      go_wp2_with fail
      go_roundw
      case rel => exact ⟨j + 1, hj, by go_num, by rw [ES.out], HW⟩
      case measure => simp [intOf]; omega
    · obtain rfl : j = k := by omega
      have sb := setN_lt (R := R) (k := j) (fun p hp => OB.out p (by omega))
      obtain ⟨p0, p1⟩ := BX.out.gr (G2.out.trans HW.out)
      generalize setN R j = s at *
      go_wp2_with fail
      refine (CO.out _ sb _).mono ?_
      rintro e w3 ⟨a1, c1, rfl, h1, h2, h3, g3⟩
      go_wp2_with fail
      go_ret
      exact ⟨a1, c1, rfl, h1, h2, h3, (G0.out.trans (G2.out.trans HW.out)).trans g3⟩

end Go.Proofs.YtohcnicadbpbbaaDoor
