/- TopCone: what is left without the first layer, again and again. -/
import Derived.Test.YtjokheeegcilhaaDoorW38
import Derived.Test.YtjokheeegcilhaaDoorP18
import Derived.Deep.DeepCutAuto
namespace Go.Proofs.YtjokheeegcilhaaDoor.topCone
open Go.RowKit Go.Firn

/-- The pairs of the hits among the first k that are kept. -/
def ms (n : Nat) (P T : Nat → Int) (k : Nat) : List (Int × Int) := (els (fun k => !(firstL n P T fun _ => true).contains k) k).map fun i => (P i, T i)
theorem ms_succ (n : Nat) (P T : Nat → Int) (k : Nat) : ms n P T (k + 1) = ms n P T k ++ (if (firstL n P T fun _ => true).contains k then [] else [(P k, T k)]) := by
  unfold ms
  rw [els_succ, List.map_append]
  cases (firstL n P T fun _ => true).contains k <;> rfl
theorem ms_len (n : Nat) (P T : Nat → Int) (k : Nat) : (ms n P T k).length ≤ k := by unfold ms; rw [List.length_map, els_length]; exact cnt_le _ _
theorem ms_rd {w : World} {a : Option Addr} {n : Nat} {P T : Nat → Int} (h : RdM w a (ms n P T n).length (px (ms n P T n)) (py (ms n P T n))) : RdM w a (kept n P T).length (kP n P T) (kT n P T) := by
  have e : (ms n P T n).length = (kept n P T).length := by unfold ms kept; rw [List.length_map]
  rw [e] at h
  refine h.congr fun i hi => ?_
  have hi' : i < (els (fun k => !(firstL n P T fun _ => true).contains k) n).length := hi
  have e2 : (ms n P T n).getD i (0, 0) = (P ((kept n P T).getD i 0), T ((kept n P T).getD i 0)) := by
    unfold ms kept
    generalize els (fun k => !(firstL n P T fun _ => true).contains k) n = L at hi'
    simp [List.getD, hi']
  unfold px py kP kT
  rw [e2]
  exact ⟨rfl, rfl⟩
theorem ms_own {n : Nat} {P T : Nat → Int} {w0 w : World} {v : Value} (h : OwnM w0 51 w v (ms n P T n)) : ∃ a c, v = .slice a (kept n P T).length c ∧ (kept n P T).length ≤ c ∧ RdM w a (kept n P T).length (kP n P T) (kT n P T) := by
  obtain ⟨a, c, rfl, h1, _, h3⟩ := h.rd
  have e : (ms n P T n).length = (kept n P T).length := by unfold ms kept; rw [List.length_map]
  have := ms_rd h3
  rw [e] at h1 ⊢
  exact ⟨a, c, rfl, h1, this⟩
theorem lay0 {n : Nat} {P T : Nat → Int} (h : 1 ≤ topH n P T) : layR2 n P T 0 = ((firstL n P T fun _ => true).length, nf (firstL n P T fun _ => true)) := by
  have e : (layT n P T (topH n P T)).getD 0 [] = firstL n P T fun _ => true := by
    rw [← first_lay]
    unfold layT
    rw [List.getD, List.getElem?_map, List.getElem?_range (by omega)]
    rfl
  unfold layR2 tr
  rw [e]

theorem one_le {k : Nat} (h : 1 ≤ k) : (1 : Int) ≤ (k : Int) := by omega

set_option maxHeartbeats 8000000 in
set_option maxRecDepth 100000 in
theorem main (adr : Option Addr) (n cc : Nat) (P T : Nat → Int) (a1 : Option Addr) (m c1 : Nat) (l : Nat → Int) (a : Option Addr) (N c : Nat) (r : Nat → Nat × (Nat → Int)) (w : World) (hn : n ≤ 40) (hw : WfH n P T) (hh : RdM w adr n P T) (hm : m ≤ 100) (hmc : m ≤ c1) (hl : RdI w a1 m l) (hN : N ≤ 60) (h60 : ∀ i, i < N → (r i).1 ≤ 60) (hwd : wideB N r = false) (hr : RdT w a N r) (hT : Tab w) :
    Calls Tryd.prog 9 #[.slice adr n cc, .slice a1 m c1, .slice a N c] w (RetB true w) := by
  have HW := Lib.hid hw
  have HH := Lib.hid hh
  have HL := Lib.hid hl
  have HR := Lib.hid hr
  have TT := Lib.hid hT
  have hlong : decide (40 < n) = false := by simp; omega
  have HWD := Lib.hid hwd
  have hm1 : (m : Int) ≤ 100 := by omega
  have A60 := Lib.hid h60
  have M100 := Lib.hid hm
  have MC := Lib.hid hmc
  have N60 := Lib.hid hN
  have HN := Lib.hid (show n ≤ 1000 by omega)
  clear hw hh hl hr hT hwd h60
  go_enter Tryd.func9, Tryd.ntmps9
  go_wp2_with (first
    | (go_at_call 15; refine (Long_any adr n cc _ (by omega)).mono ?_; rintro e w1 ⟨rfl, rfl⟩; rw [hlong])
    | (go_at_call 36; (with_reducible refine (Wide_q a N c r _ (by omega) HR.out).mono ?_); rintro e w2 h2; obtain ⟨rfl, g⟩ := h2.gr; clear h2; rw [HWD.out]; have G2 := Lib.hid g; clear g))
  have HH2 := Lib.hid (HH.out.gr G2.out)
  go_loopw [7] (fun s wr => ∃ a n c P T, s = .slice a n c ∧ Hid (n ≤ 1000) ∧ Hid (WfH n P T) ∧ Hid (RdM wr a n P T) ∧ Hid (Gr w wr)) (fun s _ => lenV s)
  case atStart => exact ⟨adr, n, cc, P, T, rfl, HN, HW, HH2, G2⟩
  case round =>
    clear HW HH HN G2 HH2 hn hlong
    clear P T
    obtain ⟨ad, n, cd, P, T, rfl, hN1, hW, hH, GR⟩ := hrel
    have HL1 := Lib.hid (HL.out.gr GR.out)
    have HR1 := Lib.hid (HR.out.gr GR.out)
    have TT1 := Lib.hid (TT.out.gr GR.out)
    cases hv : vH n P T with
    | false =>
      have HV := Lib.hid hv
      clear hv
      go_wp2_with (first
        | (go_at_call 27; (with_reducible refine (refValid_any ad n cd P T _ hN1.out hH.out).mono ?_); rintro e w1 h1; obtain ⟨rfl, g⟩ := h1.gr; clear h1; rw [HV.out]; have G1 := Lib.hid g; clear g)
        | (go_at_call 16; refine (Sane_any _ (TT1.out.gr G1.out)).mono ?_; rintro e w2 ⟨rfl, g2⟩))
      go_ret
      exact ⟨rfl, (GR.out.trans G1.out).trans g2⟩
    | true =>
      have VV := Lib.hid hv
      have V := vH_iff.1 hv
      clear hv
      have n14 := V.few
      have npos := V.pos
      have hw := hW.out
      have HV := Lib.hid V
      have C46 := Lib.hid (fun a m c l w' (hm : m ≤ 100) hh hr => refIsChain_any ad n cd P T a m c l w' (by omega) hm hh hr)
      have C20 := Lib.hid (fun a m c l w' (hm : m ≤ 100) hh hr => refIsLayer_any ad n cd P T a m c l w' (by omega) hm hh hr)
      have C40 := Lib.hid (fun a N c r w' (hN : N ≤ 60) h60 hh hr => refAreLayers_any ad n cd P T a N c r w' (by omega) hN h60 hh hr)
      have C43 := Lib.hid (fun a N c r w' (hN : N ≤ 60) h60 hh hr => refAreThreads_any ad n cd P T a N c r w' (by omega) hN h60 hh hr)
      have C47 := Lib.hid (fun a m c l w' (hm : m ≤ 100) hh hr => IsChain_any ad n cd P T a m c l w' (by omega) hw hm hh hr)
      have C19 := Lib.hid (fun a m c l w' (hm : m ≤ 100) hmc hh hr => IsLayer_any ad n cd P T a m c l w' (by omega) hw hm hmc hh hr)
      have C39 := Lib.hid (fun a N c r w' (hN : N ≤ 60) h60 hh hr => AreLayers_any ad n cd P T a N c r w' (by omega) hw hN h60 hh hr)
      have C42 := Lib.hid (fun a N c r w' (hN : N ≤ 60) h60 hh hr => AreThreads_any ad n cd P T a N c r w' (by omega) hw hN h60 hh hr)
      have e1 : ∀ B N r, areG n P T B N r = areB n B N r := fun B N r => by unfold areG; rw [vH_iff.2 V]; rfl
      simp only [isChnG_ok V, isLayG_ok V, errH_ok V, e1] at C46 C20 C40 C43 C47 C19 C39 C42
      have E45 := Lib.hid (fun w' hr hT => Chain_ok2 ad n cd P T w' V hw hr hT)
      have E37 := Lib.hid (fun w' hr hT => Layers_ok ad n cd P T w' V hw hr hT)
      have E17 := Lib.hid (fun w' hr hT => Layer_ok2 ad n cd P T w' V hw hr hT)
      have E44 := Lib.hid (fun w' hr hT => Threads_ok2 ad n cd P T w' V hw hr hT)
      have E28 := Lib.hid (fun w' hr hT => First_ok2 ad n cd P T w' V hw hr hT)
      have BB := Lib.hid (fun R1 R h1 h2 => both (R1 := R1) (R := R) V h1 h2)
      have C44 : Hid (∀ w', RdM w' ad n P T → Tab w' → Calls Tryd.prog 44 #[.slice ad n cd] w' (fun e w'' => ∃ r, RetTb n (chnB n P T) (layL n P T).length r w' e w'')) := E44
      have TK := Lib.hid (fun h => kept_top (n := n) (P := P) (T := T) h)
      have TN := Lib.hid (fun h => kept_none (P := P) (T := T) npos h)
      have KV := Lib.hid (fun h => kept_valid V h)
      have KW := Lib.hid (kept_wf hw)
      have KL := Lib.hid (kept_less V)
      have F1 := Lib.hid (first_pos V)
      have L0 := Lib.hid (lay0 (topH_ex (P := P) (T := T) npos).1)
      clear V hw e1 E44
      generalize hK : topH n P T = K at *
      generalize hZ : (layL n P T).length = Z at *
      generalize nf (chnL n P T) = fc at *
      generalize nf (layL n P T) = fl at *
      generalize layR2 n P T = R1 at *
      clear hK hZ
      go_upto_region 11 with (first
        | (go_at_call 27; (with_reducible refine (refValid_any ad n cd P T _ hN1.out hH.out).mono ?_); rintro e w1 h1; obtain ⟨rfl, g⟩ := h1.gr; clear h1; rw [VV.out]; have G2 := Lib.hid g; clear g)
        | (go_at_call 45; (with_reducible refine (E45.out _ (hH.out.gr G2.out) (TT1.out.gr G2.out)).mono ?_); rintro e w3 ⟨ac, cac, rfl, q1, q2, g⟩; have RC := Lib.hid q2; have G3 := Lib.hid (G2.out.trans g); clear g q2)
        | (go_at_call 37; (with_reducible refine (E37.out _ (hH.out.gr G3.out) (TT1.out.gr G3.out)).mono ?_); rintro e w4 ⟨al, cal, q1, q2, q3, rfl, q5, g⟩; have A1 := Lib.hid q1; have A2 := Lib.hid q2; have RL := Lib.hid q5; have RC4 := Lib.hid (RC.out.gr g); have G4 := Lib.hid (G3.out.trans g); clear g q1 q2 q3 q5)
        | (go_at_call 17; (with_reducible refine (E17.out _ (hH.out.gr G4.out) (TT1.out.gr G4.out)).mono ?_); rintro e w5 ⟨ay, cay, rfl, q1, q2, g⟩; have CY := Lib.hid q1; have RY := Lib.hid q2; have RC5 := Lib.hid (RC4.out.gr g); have RL5 := Lib.hid (RL.out.gr g); have G5 := Lib.hid (G4.out.trans g); clear g q1 q2)
        | (go_at_call 44; (with_reducible refine (C44.out _ (hH.out.gr G5.out) (TT1.out.gr G5.out)).mono ?_); rintro e w6 ⟨rt, at2, cat2, q1, q2, q3, rfl, q5, g⟩; have B1 := Lib.hid q1; have B2 := Lib.hid q2; have RT := Lib.hid q5; have RC6 := Lib.hid (RC5.out.gr g); have RL6 := Lib.hid (RL5.out.gr g); have RY6 := Lib.hid (RY.out.gr g); have G6 := Lib.hid (G5.out.trans g); have BO := Lib.hid (BB.out _ _ A1.out B1.out); have t1 : (1 : Int) ≤ (K : Int) := one_le BO.out.k1; have t2 : (1 : Int) ≤ (Z : Int) := one_le BO.out.z1; clear g q1 q2 q3 q5))
      clear t1 t2
      have K60 := Lib.hid (show K ≤ 60 by have := BO.out.kn; omega)
      have Z60 := Lib.hid (show Z ≤ 60 by have := BO.out.zn; omega)
      have I1 := Lib.hid BO.out.isC
      have I2 := Lib.hid BO.out.isL
      go_upto_region 21 with (first
        | (go_at_call 46; (with_reducible refine (C46.out ac K cac fc _ (Nat.le_trans K60.out (by decide)) (hH.out.gr G6.out) RC6.out).mono ?_); rintro e w7 ⟨rfl, g⟩; rw [I1.out]; have H7 := Lib.hid (g); clear g)
        | (go_at_call 40; (with_reducible refine (C40.out al K cal R1 _ K60.out A2.out (hH.out.gr (G6.out.trans H7.out)) (RL6.out.gr H7.out)).mono ?_); rintro e w8 ⟨rfl, g⟩; rw [A1.out]; have H8 := Lib.hid (H7.out.trans g); clear g)
        | (go_at_call 20; (with_reducible refine (C20.out ay Z cay fl _ (Nat.le_trans Z60.out (by decide)) (hH.out.gr (G6.out.trans H8.out)) (RY6.out.gr H8.out)).mono ?_); rintro e w9 ⟨rfl, g⟩; rw [I2.out]; have H9 := Lib.hid (H8.out.trans g); clear g)
        | (go_at_call 43; (with_reducible refine (C43.out at2 Z cat2 rt _ Z60.out B2.out (hH.out.gr (G6.out.trans H9.out)) (RT.out.gr H9.out)).mono ?_); rintro e w10 ⟨rfl, g⟩; rw [B1.out]; have H10 := Lib.hid (H9.out.trans g); clear g)
        | (go_at_call 47; (with_reducible refine (C47.out a1 m c1 l _ M100.out (hH.out.gr (G6.out.trans H10.out)) (HL1.out.gr (G6.out.trans H10.out))).mono ?_); rintro e w11 ⟨rfl, g⟩; have H11 := Lib.hid (H10.out.trans g); clear g)
        | (go_at_call 19; (with_reducible refine (C19.out a1 m c1 l _ M100.out MC.out (hH.out.gr (G6.out.trans H11.out)) (HL1.out.gr (G6.out.trans H11.out))).mono ?_); rintro e w12 ⟨rfl, g⟩; have H12 := Lib.hid (H11.out.trans g); clear g)
        | (go_at_call 39; (with_reducible refine (C39.out a N c r _ N60.out A60.out (hH.out.gr (G6.out.trans H12.out)) (HR1.out.gr (G6.out.trans H12.out))).mono ?_); rintro e w13 ⟨rfl, g⟩; have H13 := Lib.hid (H12.out.trans g); clear g)
        | (go_at_call 42; (with_reducible refine (C42.out a N c r _ N60.out A60.out (hH.out.gr (G6.out.trans H13.out)) (HR1.out.gr (G6.out.trans H13.out))).mono ?_); rintro e w14 ⟨rfl, g⟩; have H14 := Lib.hid (H13.out.trans g); clear g))
      have b1 := Lib.hid (BO.out.chn m l)
      have b2 := Lib.hid (BO.out.lay m l)
      have b3 := Lib.hid (BO.out.lays N r)
      have b4 := Lib.hid (BO.out.thrs N r)
      have K1 := Lib.hid BO.out.k1
      have G14 := Lib.hid (G6.out.trans H14.out)
      have RL14 := Lib.hid (RL6.out.gr H14.out)
      clear BO C46 C20 C40 C43 C47 C19 C39 C42 E37 E17 C44 BB A1 B1 I1 I2
      generalize chnB n P T m l = x1 at *
      generalize layB n P T m l = x2 at *
      generalize areB n (layB n P T) N r = x3 at *
      generalize areB n (chnB n P T) N r = x4 at *
      go_cut [221] from 168 to 221 (fun s wx => s = .bool false ∧ wx = w14)
      case first =>
        have f1 : x1 = false ∨ (x1 = true ∧ decide (K < m) = false) := by
          cases x1 with
          | false => exact .inl rfl
          | true => exact .inr ⟨rfl, by have := b1.out rfl; simp; omega⟩
        have f2 : x2 = false ∨ (x2 = true ∧ decide (Z < m) = false) := by
          cases x2 with
          | false => exact .inl rfl
          | true => exact .inr ⟨rfl, by have := b2.out rfl; simp; omega⟩
        have f3 : x3 = false ∨ (x3 = true ∧ decide (N < K) = false) := by
          cases x3 with
          | false => exact .inl rfl
          | true => exact .inr ⟨rfl, by have := b3.out rfl; simp; omega⟩
        have f4 : x4 = false ∨ (x4 = true ∧ decide (N < Z) = false) := by
          cases x4 with
          | false => exact .inl rfl
          | true => exact .inr ⟨rfl, by have := b4.out rfl; simp; omega⟩
        clear b1 b2 b3 b4 E45 E28 RL14 RC RC4 RC5 RC6 RY RY6 RL RL5 RL6 RT A2 B2
        rcases f1 with rfl | ⟨rfl, f1⟩ <;> rcases f2 with rfl | ⟨rfl, f2⟩ <;> rcases f3 with rfl | ⟨rfl, f3⟩ <;> rcases f4 with rfl | ⟨rfl, f4⟩
        all_goals (as_aux_lemma => (go_wp2_with fail; go_meet; exact ⟨rfl, by trivial⟩))
      case rest =>
        obtain ⟨rfl, rfl⟩ := hcut
        clear b1 b2 b3 b4
        have HF := Lib.hid (show ∀ a c (k : Nat) w', RdI w' a (firstL n P T fun _ => true).length (nf (firstL n P T fun _ => true)) → Calls Tryd.prog 48 #[.slice a (firstL n P T fun _ => true).length c, .int .i64 (k : Int)] w' fun e w'' => e = .returned (.bool ((firstL n P T fun _ => true).contains k)) ∧ w' = w'' from fun a c k w' hr => by
          have := inside_any a _ c (nf (firstL n P T fun _ => true)) (k : Int) w' (by have := (show (firstL n P T fun _ => true).length ≤ n by unfold firstL; rw [els_length]; exact cnt_le _ _); omega) hr
          rw [anyB_list] at this
          exact this)
        have HS := Lib.hid (fun a c a' c' w' hr hr' => SameInts_any a a' (firstL n P T fun _ => true).length c (firstL n P T fun _ => true).length c' (nf (firstL n P T fun _ => true)) (nf (firstL n P T fun _ => true)) w' (by have := (show (firstL n P T fun _ => true).length ≤ n by unfold firstL; rw [els_length]; exact cnt_le _ _); omega) (by have := (show (firstL n P T fun _ => true).length ≤ n by unfold firstL; rw [els_length]; exact cnt_le _ _); omega) hr hr')
        rw [eqB_true.2 ⟨rfl, fun _ _ => rfl⟩] at HS
        have MS := Lib.hid (ms_succ n P T)
        have ML := Lib.hid (fun k => ms_len n P T k)
        have MR := Lib.hid (fun w0 w1 v h => ms_own (n := n) (P := P) (T := T) (w0 := w0) (w := w1) (v := v) h)
        generalize (firstL n P T fun _ => true) = F at HF HS MS F1 E28 L0
        have f1 : ¬ (F.length : Int) < 1 := by have := F1.out; omega
        obtain ⟨bL, oL, ai, ci, rfl, cL, _, _, rL⟩ := RL14.out.at (k := 0) K1.out
        rw [L0.out, Nat.add_zero] at cL
        rw [L0.out] at rL
        have CL := Lib.hid cL
        have RL0 := Lib.hid rL
        have k1 : (0 : Int) < (K : Int) := by have := K1.out; omega
        clear cL rL RL14
        go_upto_region 27 with (first
          | (go_at_call 28; go_loud ((with_reducible refine (E28.out _ (hH.out.gr G14.out) (TT1.out.gr G14.out)).mono ?_); rintro e w15 ⟨af, caf, rfl, q1, q2, g⟩; have RF := Lib.hid q2; have G15 := Lib.hid (G14.out.trans g); have cL := g.cell CL.out; have RL15 := Lib.hid (RL0.out.gr g); clear g q1 q2))
          | (go_at_call 21; (with_reducible refine (HS.out af caf ai ci _ RF.out RL15.out).mono ?_); rintro e w16 ⟨rfl, g⟩; have G16 := Lib.hid (G15.out.trans g); have RF16 := Lib.hid (RF.out.gr g); clear g))
        clear f1 k1 cL
        go_wp2_with fail
        go_loopw [28, 30] (fun sv sk wy => ∃ k : Nat, k ≤ n ∧ sk = .int .i64 (k : Nat) ∧ OwnM w16 51 wy sv (ms n P T k)) (fun _ sk _ => n - (intOf sk).toNat)
        case atStart => exact ⟨0, Nat.zero_le _, rfl, OwnM.nil w16 51⟩
        case round =>
          obtain ⟨k, hk, rfl, hown⟩ := hrel
          by_cases hlt : k < n
          · obtain ⟨b, o, rfl, hc⟩ := ((hH.out.gr G16.out).gr hown.2).at hlt
            obtain ⟨p0, p1⟩ := hc k hlt
            have j1 : (k : Int) < (n : Int) := by omega
            have MSk := Lib.hid (MS.out k)
            have MLk := Lib.hid (show (ms n P T k).length < 1000000000 by have := ML.out k; omega)
            have RFw := Lib.hid (RF16.out.gr hown.2)
            have HFk := Lib.hid (fun w' hr => HF.out af caf k w' hr)
            generalize F.contains k = fk at MSk HFk
            clear hc hlt
            cases fk with
            | true =>
              clear p0 p1
              go_wp2_with (go_at_call 48; (with_reducible refine (HFk.out _ RFw.out).mono ?_); rintro e w17 ⟨rfl, rfl⟩)
              go_roundw
              case rel => exact ⟨k + 1, by omega, by go_num, by rw [MSk.out]; simpa using hown⟩
              case measure => simp [intOf]; omega
            | false =>
              go_wp2_with (first
                | (go_at_call 48; (with_reducible refine (HFk.out _ RFw.out).mono ?_); rintro e w17 ⟨rfl, rfl⟩)
                | (at_builtin; go_must (refine wpList_app_pair rfl _ _ 22 51 rfl Tryd.underlying22 Tryd.info51 _ (ms n P T k) rfl (hown.alloc _) _ _ _ rfl (cell_new2 _ _ _ _) MLk.out ?_); intro v1 w18 hown2 _))
              go_roundw
              case rel => exact ⟨k + 1, by omega, by go_num, by rw [MSk.out]; simpa using hown2⟩
              case measure => simp [intOf]; omega
          · obtain rfl : k = n := by omega
            obtain ⟨an, cn, rfl, qn, rn⟩ := MR.out _ _ _ hown
            have RN := Lib.hid rn
            have G17 := Lib.hid (G16.out.trans hown.2)
            clear hown rn hlt hk HF HS MS ML MR RF16 RF RL0 RL15 CL L0 F1
            generalize (kept k P T).length = n' at *
            generalize kP k P T = P' at *
            generalize kT k P T = T' at *
            have n40 : n' ≤ 1000 := by have := KL.out; omega
            by_cases hz : n' = 0
            · have VN := Lib.hid (show vH n' P' T' = false by subst hz; unfold vH; simp)
              have ke := TN.out hz
              have z1 : ((K : Int) != 1) = false := by rw [ke]; rfl
              have LT := Lib.hid KL.out
              clear hz ke
              go_wp2_with (go_at_call 27; (with_reducible refine (refValid_any an n' cn P' T' _ n40 RN.out).mono ?_); rintro e w19 h1; obtain ⟨rfl, g⟩ := h1.gr; clear h1; rw [VN.out]; have G19 := Lib.hid (G17.out.trans g); have RN2 := Lib.hid (RN.out.gr g); have GW := Lib.hid (GR.out.trans (G17.out.trans g)); clear g)
              go_roundw
              case rel => exact ⟨an, n', cn, P', T', rfl, Lib.hid n40, KW, RN2, GW⟩
              case measure => exact LT.out
            · have V' := Lib.hid (KV.out (by omega))
              have VN := Lib.hid (vH_iff.2 V'.out)
              have TT2 := Lib.hid (TT1.out.gr G17.out)
              have ke := TK.out (by omega)
              have C2 := Lib.hid (fun w' hr hT => Chain_ok2 an n' cn P' T' w' V'.out KW.out hr hT)
              have LT := Lib.hid KL.out
              generalize topH n' P' T' = K' at *
              have z1 : ((K' : Int) != (K : Int) - 1) = false := by simp; omega
              have z2 : (1 : Int) ≤ (K : Int) := by omega
              have z3 : (K : Int) ≤ 60 := by have := K60.out; omega
              clear hz ke
              go_wp2_with (first
                | (go_at_call 27; (with_reducible refine (refValid_any an n' cn P' T' _ n40 RN.out).mono ?_); rintro e w19 h1; obtain ⟨rfl, g⟩ := h1.gr; clear h1; rw [VN.out]; have G19 := Lib.hid (G17.out.trans g); have RN2 := Lib.hid (RN.out.gr g); have TT3 := Lib.hid (TT2.out.gr g); clear g)
                | (go_at_call 45; (with_reducible refine (C2.out _ RN2.out TT3.out).mono ?_); rintro e w20 ⟨a8, c8, rfl, q1, q2, g⟩; have RN3 := Lib.hid (RN2.out.gr g); have GW := Lib.hid (GR.out.trans (G19.out.trans g)); clear g q1 q2))
              go_roundw
              case rel => exact ⟨an, n', cn, P', T', rfl, Lib.hid n40, KW, RN3, GW⟩
              case measure => exact LT.out

end Go.Proofs.YtjokheeegcilhaaDoor.topCone
