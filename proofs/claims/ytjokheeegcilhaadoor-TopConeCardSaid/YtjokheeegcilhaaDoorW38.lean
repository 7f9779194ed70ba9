/- ConeBoth at valid hits and lists that are not too long. -/
import Derived.Deep.DeepCutAuto
import Derived.Test.YtjokheeegcilhaaDoorW37
namespace Go.Proofs.YtjokheeegcilhaaDoor.coneBoth
open Go.RowKit Go.Firn

theorem prod_facts {n : Nat} {P T : Nat → Int} {K Z : Nat} {fc fl : Nat → Int} (B : Both n P T K Z fc fl) (hn : n ≤ 14) : wrap64 ((K : Int) * (Z : Int)) = (K : Int) * (Z : Int) ∧ ¬ (K : Int) * (Z : Int) < (n : Int) := by
  have h1 := B.kn
  have h2 := B.zn
  have h3 := B.area
  have h4 : K * Z ≤ 15 * 14 := Nat.mul_le_mul (by omega) (by omega)
  have e : (K : Int) * (Z : Int) = ((K * Z : Nat) : Int) := by rw [Int.natCast_mul]
  rw [e]
  exact ⟨IntWalk.wrap64_in _ (by omega), by omega⟩
set_option maxHeartbeats 4000000 in
set_option maxRecDepth 100000 in
theorem main (adr : Option Addr) (n cc : Nat) (P T : Nat → Int) (a1 : Option Addr) (m c1 : Nat) (l : Nat → Int) (a : Option Addr) (N c : Nat) (r : Nat → Nat × (Nat → Int)) (w : World) (V : VH n P T) (hw : WfH n P T) (hh : RdM w adr n P T) (hm : m ≤ 100) (hmc : m ≤ c1) (hl : RdI w a1 m l) (hN : N ≤ 60) (h60 : ∀ i, i < N → (r i).1 ≤ 60) (hwd : wideB N r = false) (hr : RdT w a N r) (hT : Tab w) :
    Calls Tryd.prog 10 #[.slice adr n cc, .slice a1 m c1, .slice a N c] w (RetB true w) := by
  have n14 := V.few
  have npos := V.pos
  have HV := Lib.hid V
  have VV := Lib.hid (vH_iff.2 V)
  have HW := Lib.hid hw
  have HH := Lib.hid hh
  have HL := Lib.hid hl
  have HR := Lib.hid hr
  have TT := Lib.hid hT
  have hlong : decide (40 < n) = false := by simp; omega
  have HWD := Lib.hid hwd
  have C36 := Lib.hid (fun w' h => Wide_q a N c r w' (by omega) h)
  have C47 := Lib.hid (fun a m c l w' (hm : m ≤ 100) hh hr => IsChain_any adr n cc P T a m c l w' (by omega) hw hm hh hr)
  have C19 := Lib.hid (fun a m c l w' (hm : m ≤ 100) hmc hh hr => IsLayer_any adr n cc P T a m c l w' (by omega) hw hm hmc hh hr)
  have C39 := Lib.hid (fun a N c r w' (hN : N ≤ 60) h60 hh hr => AreLayers_any adr n cc P T a N c r w' (by omega) hw hN h60 hh hr)
  have C42 := Lib.hid (fun a N c r w' (hN : N ≤ 60) h60 hh hr => AreThreads_any adr n cc P T a N c r w' (by omega) hw hN h60 hh hr)
  have A60 := Lib.hid h60
  have e1 : ∀ B N r, areG n P T B N r = areB n B N r := fun B N r => by unfold areG; rw [vH_iff.2 V]; rfl
  simp only [isChnG_ok V, isLayG_ok V, errH_ok V, e1] at C47 C19 C39 C42
  have E45 := Lib.hid (fun w' hr hT => Chain_ok2 adr n cc P T w' V hw hr hT)
  have E37 := Lib.hid (fun w' hr hT => Layers_ok adr n cc P T w' V hw hr hT)
  have E17 := Lib.hid (fun w' hr hT => Layer_ok2 adr n cc P T w' V hw hr hT)
  have E44 := Lib.hid (fun w' hr hT => Threads_ok2 adr n cc P T w' V hw hr hT)
  have BB := Lib.hid (fun R1 R h1 h2 => both (R1 := R1) (R := R) V h1 h2)
  have C44 : Hid (∀ w', RdM w' adr n P T → Tab w' → Calls Tryd.prog 44 #[.slice adr n cc] w' (fun e w'' => ∃ r, RetTb n (chnB n P T) (layL n P T).length r w' e w'')) := E44
  clear E44
  have hm1 : (m : Int) ≤ 100 := by omega
  clear V hw hh hl hr hT hwd h60 e1
  generalize hK : topH n P T = K at *
  generalize hZ : (layL n P T).length = Z at *
  generalize nf (chnL n P T) = fc at *
  generalize nf (layL n P T) = fl at *
  generalize layR2 n P T = R1 at *
  clear hK hZ
  go_enter Tryd.func10, Tryd.ntmps10
  go_upto_region 9 with (first
    | (go_at_call 15; refine (Long_any adr n cc _ (by omega)).mono ?_; rintro e w1 ⟨rfl, rfl⟩; rw [hlong])
    | (go_at_call 27; (with_reducible refine (refValid_any adr n cc P T _ (by omega) HH.out).mono ?_); rintro e w1 h1; obtain ⟨rfl, g⟩ := h1.gr; clear h1; rw [VV.out]; have G1 := Lib.hid g; clear g)
    | (go_at_call 36; (with_reducible refine (C36.out _ (HR.out.gr G1.out)).mono ?_); rintro e w2 h2; obtain ⟨rfl, g⟩ := h2.gr; clear h2; rw [HWD.out]; have G2 := Lib.hid (G1.out.trans g); clear g)
    | (go_at_call 45; (with_reducible refine (E45.out _ (HH.out.gr G2.out) (TT.out.gr G2.out)).mono ?_); rintro e w3 ⟨ac, cac, rfl, q1, q2, g⟩; have RC := Lib.hid q2; have G3 := Lib.hid (G2.out.trans g); clear g q2)
    | (go_at_call 37; (with_reducible refine (E37.out _ (HH.out.gr G3.out) (TT.out.gr G3.out)).mono ?_); rintro e w4 ⟨al, cal, q1, q2, q3, rfl, q5, g⟩; have A1 := Lib.hid q1; have A2 := Lib.hid q2; have RL := Lib.hid q5; have RC4 := Lib.hid (RC.out.gr g); have G4 := Lib.hid (G3.out.trans g); clear g q1 q2 q3 q5)
    | (go_at_call 17; (with_reducible refine (E17.out _ (HH.out.gr G4.out) (TT.out.gr G4.out)).mono ?_); rintro e w5 ⟨ay, cay, rfl, q1, q2, g⟩; have CY := Lib.hid q1; have RY := Lib.hid q2; have RC5 := Lib.hid (RC4.out.gr g); have RL5 := Lib.hid (RL.out.gr g); have G5 := Lib.hid (G4.out.trans g); clear g q1 q2)
    | (go_at_call 44; (with_reducible refine (C44.out _ (HH.out.gr G5.out) (TT.out.gr G5.out)).mono ?_); rintro e w6 ⟨rt, at2, cat2, q1, q2, q3, rfl, q5, g⟩; have B1 := Lib.hid q1; have B2 := Lib.hid q2; have RT := Lib.hid q5; have RC6 := Lib.hid (RC5.out.gr g); have RL6 := Lib.hid (RL5.out.gr g); have RY6 := Lib.hid (RY.out.gr g); have G6 := Lib.hid (G5.out.trans g); have BO := Lib.hid (BB.out _ _ A1.out B1.out); obtain ⟨t1, t2⟩ := prod_facts BO.out n14; clear g q1 q2 q3 q5))
  clear t1 t2
  have K60 := Lib.hid (show K ≤ 60 by have := BO.out.kn; omega)
  have Z60 := Lib.hid (show Z ≤ 60 by have := BO.out.zn; omega)
  have N60 := Lib.hid hN
  have M100 := Lib.hid hm
  have MC := Lib.hid hmc
  have I1 := Lib.hid BO.out.isC
  have I2 := Lib.hid BO.out.isL
  go_upto_region 21 with (first
    | (go_at_call 47; (with_reducible refine (C47.out ac K cac fc _ (Nat.le_trans K60.out (by decide)) (HH.out.gr G6.out) RC6.out).mono ?_); rintro e w7 ⟨rfl, g⟩; rw [I1.out]; have H7 := Lib.hid g; clear g)
    | (go_at_call 39; (with_reducible refine (C39.out al K cal R1 _ K60.out A2.out (HH.out.gr (G6.out.trans H7.out)) (RL6.out.gr H7.out)).mono ?_); rintro e w8 ⟨rfl, g⟩; rw [A1.out]; have H8 := Lib.hid (H7.out.trans g); clear g)
    | (go_at_call 19; (with_reducible refine (C19.out ay Z cay fl _ (Nat.le_trans Z60.out (by decide)) CY.out (HH.out.gr (G6.out.trans H8.out)) (RY6.out.gr H8.out)).mono ?_); rintro e w9 ⟨rfl, g⟩; rw [I2.out]; have H9 := Lib.hid (H8.out.trans g); clear g)
    | (go_at_call 42; (with_reducible refine (C42.out at2 Z cat2 rt _ Z60.out B2.out (HH.out.gr (G6.out.trans H9.out)) (RT.out.gr H9.out)).mono ?_); rintro e w10 ⟨rfl, g⟩; rw [B1.out]; have H10 := Lib.hid (H9.out.trans g); clear g)
    | (go_at_call 47; (with_reducible refine (C47.out a1 m c1 l _ M100.out (HH.out.gr (G6.out.trans H10.out)) (HL.out.gr (G6.out.trans H10.out))).mono ?_); rintro e w11 ⟨rfl, g⟩; have H11 := Lib.hid (H10.out.trans g); clear g)
    | (go_at_call 19; (with_reducible refine (C19.out a1 m c1 l _ M100.out MC.out (HH.out.gr (G6.out.trans H11.out)) (HL.out.gr (G6.out.trans H11.out))).mono ?_); rintro e w12 ⟨rfl, g⟩; have H12 := Lib.hid (H11.out.trans g); clear g)
    | (go_at_call 39; (with_reducible refine (C39.out a N c r _ N60.out A60.out (HH.out.gr (G6.out.trans H12.out)) (HR.out.gr (G6.out.trans H12.out))).mono ?_); rintro e w13 ⟨rfl, g⟩; have H13 := Lib.hid (H12.out.trans g); clear g)
    | (go_at_call 42; (with_reducible refine (C42.out a N c r _ N60.out A60.out (HH.out.gr (G6.out.trans H13.out)) (HR.out.gr (G6.out.trans H13.out))).mono ?_); rintro e w14 ⟨rfl, g⟩; have H14 := Lib.hid (H13.out.trans g); clear g))
  have b1 := Lib.hid (BO.out.chn m l)
  have b2 := Lib.hid (BO.out.lay m l)
  have b3 := Lib.hid (BO.out.lays N r)
  have b4 := Lib.hid (BO.out.thrs N r)
  have G14 := Lib.hid (G6.out.trans H14.out)
  have SA := Lib.hid (fun w' hT => Sane_any w' hT)
  clear BO C47 C19 C39 C42 E45 E37 E17 C44 BB A1 A2 B1 B2
  generalize chnB n P T m l = x1 at *
  generalize layB n P T m l = x2 at *
  generalize areB n (layB n P T) N r = x3 at *
  generalize areB n (chnB n P T) N r = x4 at *
  have f1 : x1 = false ∨ (x1 = true ∧ (m : Int) ≤ (K : Int)) := by
    cases x1 with
    | false => exact .inl rfl
    | true => exact .inr ⟨rfl, by have := b1.out rfl; omega⟩
  have f2 : x2 = false ∨ (x2 = true ∧ (m : Int) ≤ (Z : Int)) := by
    cases x2 with
    | false => exact .inl rfl
    | true => exact .inr ⟨rfl, by have := b2.out rfl; omega⟩
  have f3 : x3 = false ∨ (x3 = true ∧ (K : Int) ≤ (N : Int)) := by
    cases x3 with
    | false => exact .inl rfl
    | true => exact .inr ⟨rfl, by have := b3.out rfl; omega⟩
  have f4 : x4 = false ∨ (x4 = true ∧ (Z : Int) ≤ (N : Int)) := by
    cases x4 with
    | false => exact .inl rfl
    | true => exact .inr ⟨rfl, by have := b4.out rfl; omega⟩
  clear b1 b2 b3 b4
  rcases f1 with rfl | ⟨rfl, f1⟩ <;> rcases f2 with rfl | ⟨rfl, f2⟩ <;> rcases f3 with rfl | ⟨rfl, f3⟩ <;> rcases f4 with rfl | ⟨rfl, f4⟩
  all_goals
    go_wp2_with (go_at_call 16; refine (SA.out _ (TT.out.gr G14.out)).mono ?_; rintro e w15 ⟨rfl, g15⟩)
    go_ret
    exact ⟨rfl, G14.out.trans g15⟩

end Go.Proofs.YtjokheeegcilhaaDoor.coneBoth
