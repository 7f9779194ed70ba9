/- Contracts of chapter 2: the order of hits. -/
import Derived.Test.YtjokheeegcilhaaDoorW3
import Derived.Test.YtjokheeegcilhaaDoorPA
import Derived.Test.YtjokheeegcilhaaDoorCoru
import Derived.Deep.DeepCutAuto
import Derived.Deep.RegionHeld3
namespace Go.Proofs.YtjokheeegcilhaaDoor
open Go.RowKit Go.Firn

theorem Tryd.info76 : (Tryd.prog.info? 76).map (fun i => (i.zero, i.size, i.bytes)) = some (some (.int .u16 0), 1, 2) := by kernel_rfl

theorem pow_u16 {a : Nat} (h : a ≤ 15) : 2 ^ a < 65536 := Nat.pow_lt_pow_right (a := 2) (by omega) (show a < 16 by omega)
theorem ipow (a : Nat) : (2 : Int) ^ a = ((2 ^ a : Nat) : Int) := (Int.natCast_pow 2 a).symm
theorem shl_u16 {a : Nat} (h : a ≤ 15) : IntKind.u16.wrap ((2 : Int) ^ a) = (2 : Int) ^ a := by
  have := pow_u16 h
  rw [ipow]
  generalize (2 : Nat) ^ a = q at this ⊢
  exact IntWalk.u16_in _ (by omega)
theorem orp_u16 {x a : Nat} (hx : x < 65536) (ha : a ≤ 15) : bits .or .u16 (x : Int) ((2 : Int) ^ a) = ((x ||| 2 ^ a : Nat) : Int) := by
  rw [ipow]
  exact u16_or_nat x _ hx (pow_u16 ha)
theorem or_u16 {a b : Nat} (ha : a < 65536) (hb : b < 65536) : bits .or .u16 (a : Int) (b : Int) = ((a ||| b : Nat) : Int) := u16_or_nat a b ha hb
theorem and_u16 {a b : Nat} (ha : a < 65536) (hb : b < 65536) : bits .and .u16 (a : Int) (b : Int) = ((a &&& b : Nat) : Int) := u16_and_nat a b ha hb

/-- The order of valid hits, or the error. -/
def RetO (n : Nat) (P T : Nat → Int) (w : World) (e : Ending) (w' : World) : Prop :=
  ∃ p b1 b2, e = .returned (.tuple #[.pointer (some ⟨p, 0, none⟩), .int .i64 0]) ∧ OrdB w' p b1 b2 n (pastM n P T) (futM n P T) ∧ Gr w w' ∧ w.heap.size ≤ p

set_option maxHeartbeats 1000000 in
theorem open_any (adr : Option Addr) (n c : Nat) (P T : Nat → Int) (w : World) (V : VH n P T) (hw : WfH n P T) (hr : RdM w adr n P T) :
    Calls Tryd.prog 66 #[.slice adr n c] w (RetO n P T w) := by
  have hpos := V.pos
  have hfew := V.few
  have EV := Lib.hid (vH_iff.2 V)
  have HV := Lib.hid V
  have HW := Lib.hid hw
  have HR := Lib.hid hr
  obtain ⟨cs, hcs, _, mk0⟩ := made Tryd.underlying77 Tryd.info76 rfl (by omega) n (by omega)
  clear V hw hr
  go_enter Tryd.func66, Tryd.ntmps66
  go_wp2_with (go_at_call 26; refine (Valid_any adr n c P T _ (by omega) HW.out HR.out).mono ?_; rintro e w1 ⟨rfl, g1⟩; rw [EV.out])
  go_upto_region 3 with (fail)
  go_cut [4] from 14 to 21 (fun s4 wx => ∃ p b1 b2 : Nat, s4 = .pointer (some ⟨p, 0, none⟩) ∧ Hid (b1 ≠ p ∧ b2 ≠ p ∧ b1 ≠ b2) ∧ Hid (w.heap.size ≤ p ∧ w.heap.size ≤ b1 ∧ w.heap.size ≤ b2) ∧ Hid (OrdB wx p b1 b2 n (pastP P T 0 0) (futP n P T 0 0)) ∧ Hid (Gr w wx))
  case first =>
    go_region_held3 (fun w' => True) (trivial) (fail)
    all_goals go_wp2_with fail
    all_goals go_meet
    all_goals refine ⟨_, _, _, rfl, (by show _ ∧ _; omega), (by have := g1.size; show _ ∧ _; omega), (OrdB.congr (OrdB.drew (OrdB.start w1 cs n 76 79 _ _ hcs (by omega))) (fun i _ => ⟨(pastP_zero P T i).symm, (futP_zero n P T i).symm⟩)), ((((g1.alloc _).alloc _).alloc _).drew)⟩
  case rest =>
    obtain ⟨p, b1, b2, rfl, hne, hge, HO, HG⟩ := hcut
    clear mk0 hcs
    go_wp2_with fail
    go_loopw [24] (fun s wr => ∃ A : Nat, A ≤ n ∧ s = .int .i64 A ∧ Hid (OrdB wr p b1 b2 n (pastP P T A 0) (futP n P T A 0)) ∧ Hid (Gr w wr)) (fun s _ => n - (intOf s).toNat)
    case atStart => exact ⟨0, Nat.zero_le _, rfl, HO, HG⟩
    case round =>
      obtain ⟨A, hA, rfl, O1, G1⟩ := hrel
      by_cases hlt : A < n
      · obtain ⟨bl, o, rfl, hc⟩ := (HR.out.gr G1.out).at hlt
        obtain ⟨c0, c1⟩ := hc A hlt
        clear hc
        go_wp2_with fail
        have B0 := Lib.hid (Box2.new (w := wr) (e := 51) (x := P A) (y := T A) rfl)
        have L0 := Lib.hid (show wr.heap.size < (wr.alloc (.cells #[.int .i64 (P A), .int .i64 (T A)] 51)).heap.size by simp)
        have L1 := Lib.hid (show w.heap.size ≤ wr.heap.size from G1.out.size)
        have L2 := Lib.hid (show b1 < wr.heap.size ∧ b2 < wr.heap.size from ⟨World.block_lt_of_cell? wr _ (O1.out.r1 A hlt).1, World.block_lt_of_cell? wr _ (O1.out.r2 A hlt).1⟩)
        have O1' := Lib.hid (O1.out.gr ((Gr.refl wr).alloc (.cells #[.int .i64 (P A), .int .i64 (T A)] 51)))
        have G1' := Lib.hid (G1.out.alloc (.cells #[.int .i64 (P A), .int .i64 (T A)] 51))
        clear c0 c1 O1 G1
        generalize wr.heap.size = b6 at B0 L0 L1 L2 ⊢
        generalize wr.alloc (.cells #[.int .i64 (P A), .int .i64 (T A)] 51) = wm at B0 L0 O1' G1' ⊢
        go_loopw [31] (fun s wx => ∃ B : Nat, B ≤ n ∧ s = .int .i64 B ∧ Hid (OrdB wx p b1 b2 n (pastP P T A B) (futP n P T A B)) ∧ Hid (Gr w wx) ∧ Hid (Box2 wx b6 (P A) (T A)) ∧ Hid (b6 < wx.heap.size)) (fun s _ => n - (intOf s).toNat)
        case atStart => exact ⟨0, Nat.zero_le _, rfl, O1', G1', B0, L0⟩
        case round =>
          obtain ⟨B, hB, rfl, O2, G2, X2, S2⟩ := hrel
          by_cases hl2 : B < n
          · obtain ⟨bl', o', e1, hc⟩ := (HR.out.gr G2.out).at hl2
            simp at e1
            obtain ⟨rfl, rfl⟩ := e1
            obtain ⟨c0, c1⟩ := hc B hl2
            clear hc
            obtain ⟨x0, x1, _, _⟩ := X2.out
            obtain ⟨p1, p2, p3, p4⟩ := HV.out.ok A hlt
            obtain ⟨q1, q2, q3, q4⟩ := HV.out.ok B hl2
            have s1 : b6 < wr.heap.size := S2.out
            have s2 : ¬ b6 = wr.heap.size := by omega
            have e1 : IntKind.i64.wrap (T B - T A) = T B - T A := IntWalk.i64_in _ (by omega)
            have e2 : IntKind.i64.wrap (P B - P A) = P B - P A := IntWalk.i64_in _ (by omega)
            have e3 : IntKind.i64.wrap (P A - P B) = P A - P B := IntWalk.i64_in _ (by omega)
            have e4 : (B : Int) < (n : Int) := by omega
            have e5 : (A : Int) < (n : Int) := by omega
            by_cases t1 : 0 < T B - T A
            · by_cases t2 : P A - P B ≤ T B - T A ∧ P B - P A ≤ T B - T A
              · obtain ⟨t2, t3⟩ := t2
                have F := Lib.hid (show bf P T A B = true by rw [bf_iff]; exact ⟨t1, t3, t2⟩)
                go_upto_region 13 with (fail)
                have O3 := Lib.hid (O2.out.gr ((Gr.refl wr).alloc (.cells #[.int .i64 (P B), .int .i64 (T B)] 51)))
                have G3 := Lib.hid (G2.out.alloc (.cells #[.int .i64 (P B), .int .i64 (T B)] 51))
                have X3 := Lib.hid (X2.out.gr ((Gr.refl wr).alloc (.cells #[.int .i64 (P B), .int .i64 (T B)] 51)))
                have S3 := Lib.hid (show b6 < (wr.alloc (.cells #[.int .i64 (P B), .int .i64 (T B)] 51)).heap.size by simp; omega)
                clear O2 G2 X2 S2 c0 c1 x0 x1 p1 p2 p3 p4 q1 q2 q3 q4 e1 e2 e3 t1 t2 t3 s1 s2
                generalize wr.alloc (.cells #[.int .i64 (P B), .int .i64 (T B)] 51) = wx at O3 G3 X3 S3 ⊢
                have d0 := O3.out.c0
                obtain ⟨d1, d2⟩ := O3.out.r1 B hl2
                have hP : pastP P T A B B < 65536 := pastP_lt hfew hlt
                have e10 := shl_u16 (show A ≤ 15 by omega)
                have e11 := orp_u16 hP (show A ≤ 15 by omega)
                go_region
                have O4 := Lib.hid ((O3.out.put1 hne.out.1 hne.out.2.2 hl2 (pastP P T A B B ||| 2 ^ A)).drew)
                have G4 := Lib.hid ((G3.out.setAt (b := b1) (j := B) hge.out.2.1 (.int .u16 ((pastP P T A B B ||| 2 ^ A : Nat) : Int))).drew)
                have X4 := Lib.hid (Box2.far1 (b' := b1) (j := B) X3.out (by have := L2.out; omega) (.int .u16 ((pastP P T A B B ||| 2 ^ A : Nat) : Int))).drew
                have S4 := Lib.hid (show b6 < (wx.setCell ⟨b1, B, none⟩ (.int .u16 ((pastP P T A B B ||| 2 ^ A : Nat) : Int))).drew.heap.size by simpa using S3.out)
                clear O3 G3 X3 S3 d0 d1 d2 e10 e11 hP
                generalize (wx.setCell ⟨b1, B, none⟩ (.int .u16 ((pastP P T A B B ||| 2 ^ A : Nat) : Int))).drew = wy at O4 G4 X4 S4 ⊢
                go_upto_region 14 with (fail)
                have d0 := O4.out.c1
                obtain ⟨d1, d2⟩ := O4.out.r2 A hlt
                have hF : futP n P T A B A < 65536 := futP_lt hfew hB
                have e10 := shl_u16 (show B ≤ 15 by omega)
                have e11 := orp_u16 hF (show B ≤ 15 by omega)
                go_region
                have O5 := Lib.hid (((O4.out.put2 hne.out.2.1 (fun e => hne.out.2.2 e.symm) hlt (futP n P T A B A ||| 2 ^ B)).drew).congr fun i _ => ⟨pastP_yes F.out, futP_yes F.out⟩)
                have G5 := Lib.hid ((G4.out.setAt (b := b2) (j := A) hge.out.2.2 (.int .u16 ((futP n P T A B A ||| 2 ^ B : Nat) : Int))).drew)
                have X5 := Lib.hid (Box2.far1 (b' := b2) (j := A) X4.out (by have := L2.out; omega) (.int .u16 ((futP n P T A B A ||| 2 ^ B : Nat) : Int))).drew
                have S5 := Lib.hid (show b6 < (wy.setCell ⟨b2, A, none⟩ (.int .u16 ((futP n P T A B A ||| 2 ^ B : Nat) : Int))).drew.heap.size by simpa using S4.out)
                clear O4 G4 X4 S4 d0 d1 d2 e10 e11 hF
                generalize (wy.setCell ⟨b2, A, none⟩ (.int .u16 ((futP n P T A B A ||| 2 ^ B : Nat) : Int))).drew = wz at O5 G5 X5 S5 ⊢
                go_wp2_with fail
                go_roundw
                case rel => exact ⟨B + 1, by omega, by go_num, O5, G5, X5, S5⟩
                case measure => simp [intOf]; omega
              · have F := Lib.hid (show bf P T A B = false by
                  cases hb : bf P T A B
                  · rfl
                  · rw [bf_iff] at hb; exact absurd ⟨hb.2.2, hb.2.1⟩ t2)
                go_wp2_with fail
                all_goals go_roundw
                all_goals first
                  | exact ⟨B + 1, by omega, by go_num, (O2.out.gr ((Gr.refl wr).alloc _)).congr fun i _ => ⟨pastP_no F.out, futP_no F.out⟩, G2.out.alloc _, X2.out.gr ((Gr.refl wr).alloc _), (by have := S2.out; show _ < _; simp; omega)⟩
                  | (simp [intOf]; omega)
            · have F := Lib.hid (show bf P T A B = false by
                cases hb : bf P T A B
                · rfl
                · rw [bf_iff] at hb; exact absurd hb.1 t1)
              go_wp2_with fail
              all_goals go_roundw
              all_goals first
                | exact ⟨B + 1, by omega, by go_num, (O2.out.gr ((Gr.refl wr).alloc _)).congr fun i _ => ⟨pastP_no F.out, futP_no F.out⟩, G2.out.alloc _, X2.out.gr ((Gr.refl wr).alloc _), (by have := S2.out; show _ < _; simp; omega)⟩
                | (simp [intOf]; omega)
          · obtain rfl : B = n := by omega
            go_wp2_with fail
            go_roundw
            case rel => exact ⟨A + 1, by omega, by go_num, O2.out.congr fun i hi => ⟨pastP_next hi, futP_next⟩, G2⟩
            case measure => simp [intOf]; omega
      · obtain rfl : A = n := by omega
        go_wp2_with fail
        go_ret2
        exact ⟨p, b1, b2, rfl, O1.out.congr fun i hi => ⟨pastP_end, futP_end hi⟩, G1.out, hge.out.1⟩

end Go.Proofs.YtjokheeegcilhaaDoor
