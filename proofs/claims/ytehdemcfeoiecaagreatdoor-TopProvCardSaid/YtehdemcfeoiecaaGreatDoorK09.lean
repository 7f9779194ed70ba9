import Derived.Shelf.Abstract
import Derived.Lib.SliceRun
import Derived.Test.YtehdemcfeoiecaaGreatDoorK03
import Derived.Test.YtehdemcfeoiecaaGreatDoorK08
set_option maxHeartbeats 64000000
set_option maxRecDepth 100000
namespace Go.Proofs.YtehdemcfeoiecaaGreatDoor.RS
open Go.RowKit Go.Firn Go.Firn.Tb
theorem sym_any (b cap n : Nat) (c : Nat → Rw) (K : Nat → List Int) (hn : n ≤ 1000) : ∀ d, SymH b cap n c K d
 | 0 => fun a m e R w hd => by omega
 | d + 1 => fun a m e R w hd ham hme he hT hR hw hC => by
  have ih : SymH b cap n c K (e - a) := fun a' m' e' R' w' hd' => sym_any b cap n c K hn d a' m' e' R' w' (by omega)
  by_cases h1 : m = a + 1
  ·exact symA_any b cap n a m e R c K w hn h1 hme he hT.2.1 hT.2.2 hR hw hC
  by_cases h2 : e = m + 1
  ·exact symB_any b cap n a m e R c K w hn h2 h1 ham he hT.1 hT.2.2 hR hw hC
  rcases Nat.lt_or_ge ((a + e) / 2) m with h3 | h3
  ·exact symM1_any b cap n a m e R c K w hn h2 ham hme he h3 hT hR hw hC ih
  exact symM2_any b cap n a m e R c K w hn h1 h2 ham hme he h3 hT hR hw hC ih
def InsB (K : Nat → List Int) (n a : Nat) (R : Nat → Nat) : Prop := BS K 1 20 n a R ∧ a % 20 = 0
def MrgB (K : Nat → List Int) (s n a : Nat) (R : Nat → Nat) : Prop := BS K s 2 n a R ∧ a % (s * 2) = 0
theorem BS.id {K : Nat → List Int} {n a : Nat} {R : Nat → Nat} (h : BS K 1 20 n a R) : ∀ p, a ≤ p → p < n → R p = p := fun p h1 h2 => by
 have := h.own2 p h2 h1
 simpa using this
theorem BS.lt {K : Nat → List Int} {s c n a : Nat} {R : Nat → Nat} (h : BS K s c n a R) : ∀ p, p < n → R p < n := fun p hp => by
 obtain ⟨q, _, h2, e⟩ := h.prm.from_ p (Nat.zero_le _) hp
 rw [e]; exact h2
theorem scrT5s_stable_any {P : Prop} (h : P := by
  have HN := Lh hn
  have HC0 := Lh hC
  have HW := Lh hw
  have CI := Lh (fun (a e : Nat) (R : Nat → Nat) w' (hae : a ≤ e) (he : e ≤ n) (hid : ∀ p, a ≤ p → p < n → R p = p) (hw : Row2 w' b n R c) (hC : CmpOk w' b n c K) => ins_any b cap n a e R c K w' hn hae he hid hw hC)
  have CM := Lh (sym_any b cap n c K hn 1001)
  clear hw hn hC
  first | (have z := zS; clear z; go_enter Tryz.func203, Tryz.ntmps203) | (go_enter Tryz.func169, Tryz.ntmps169)
  go_wp2_with fail
  go_loopw [7, 8] (fun s t wr => ∃ (a : Nat) (R : Nat → Nat), s = .int .i64 a ∧ t = .int .i64 ((a + 20 : Nat) : Int) ∧ Hid (a ≤ n) ∧ Hid (Wr b w wr) ∧ Hid (Row2 wr b n R c) ∧ Hid (InsB K n a R)) (fun s _ _ => n - (intOf s).toNat)
  case atStart => exact ⟨0, fun p => p, rfl, rfl, Lh (Nat.zero_le _), Lh (Wr.refl _ _), HW, Lh ⟨BS.start (Blk.one K n), rfl⟩⟩
  case round =>
   clear HW
   obtain ⟨a, R, rfl, rfl, Ha, HWr, HR, HI⟩ := hrel
   obtain ⟨e, he⟩ : ∃ e, e = a + 20 := ⟨_, rfl⟩
   rw [← he]
   have hn := HN.out
   have ha := Ha.out
   by_cases hle : e ≤ n
   ·have i1 : (e : Int) ≤ (n : Int) := by omega
    have C1 := Lh (CI.out a e R wr (by omega) hle (BS.id HI.out.1) HR.out (HC0.out.wr HWr.out))
    have HE := Lh (show e = a + 20 ∧ e ≤ n from ⟨he, hle⟩)
    have e3 : IntKind.i64.wrap ((e : Int) + 20) = ((e + 20 : Nat) : Int) := by rw [IntWalk.i64_in _ (by omega)]; omega
    clear he hle hn ha
    go_wp2_with ((first | go_at_call 201 | go_at_call 236); (with_reducible refine C1.out.mono ?_); rintro e w1 ⟨rfl, S, g1, r1, t1, t2⟩; have G1 := Lh (HWr.out.trans g1); have R1 := Lh r1; have HT := Lh (And.intro t1 t2); clear g1 r1 t1 t2 C1)
    have hE := HE.out
    have hn := HN.out
    have HI2 := Lh (show InsB K n e S from ⟨by
     have := HI.out.1.step (e := e) (S := S) (by omega) (by have := HI.out.2; omega) (.inl (by omega)) (by omega) (by omega) HT.out.1 HT.out.2
     rwa [show a + 1 * 20 = e by omega] at this, by have := HI.out.2; omega⟩)
    clear CI CM HC0 HI HT
    go_roundw
    case rel => exact ⟨e, S, rfl, by first | rfl | (rw [e3]), Lh (by omega), G1, R1, HI2⟩
    case measure => clear e3; simp only [intOf]; omega
   have i1 : ¬ (e : Int) ≤ (n : Int) := by omega
   have C1 := Lh (CI.out a n R wr (by omega) (Nat.le_refl _) (BS.id HI.out.1) HR.out (HC0.out.wr HWr.out))
   have HE := Lh (show e = a + 20 ∧ n < e from ⟨he, by omega⟩)
   clear he hle hn ha CI
   go_wp2_with ((first | go_at_call 201 | go_at_call 236); (with_reducible refine C1.out.mono ?_); rintro e w1 ⟨rfl, S, g1, r1, t1, t2⟩; have G1 := Lh (HWr.out.trans g1); have R1 := Lh r1; have HT := Lh (And.intro t1 t2); clear g1 r1 t1 t2 C1)
   have HB0 := Lh (show Blk K 20 n S by
    have hE := HE.out
    have ha := Ha.out
    have := HI.out.1.step (e := n) (S := S) (by omega) (by have := HI.out.2; omega) (.inr ⟨rfl, by omega⟩) (Nat.le_refl _) (by omega) HT.out.1 HT.out.2
    exact this.done (by omega))
   clear HI HR HWr HT
   go_loopw [6] (fun s wr => ∃ (s' : Nat) (R : Nat → Nat), s = .int .i64 s' ∧ Hid (20 ≤ s' ∧ s' ≤ 2000) ∧ Hid (Wr b w wr) ∧ Hid (Row2 wr b n R c) ∧ Hid (Blk K s' n R)) (fun s _ => 2001 - (intOf s).toNat)
   case atStart => exact ⟨20, S, rfl, Lh (by omega), G1, R1, HB0⟩
   case round =>
    clear G1 R1 HB0
    obtain ⟨s, R, rfl, Hs, HWr, HR, HB⟩ := hrel
    have hn := HN.out
    have hs := Hs.out
    by_cases hlt : s < n
    ·have j1 : (s : Int) < (n : Int) := by omega
     have HS := Lh (show 20 ≤ s ∧ s < n from by omega)
     obtain ⟨s2, hs2⟩ : ∃ s2, s2 = s * 2 := ⟨_, rfl⟩
     have e4 : IntKind.i64.wrap (2 * (s : Int)) = (s2 : Int) := by rw [IntWalk.i64_in _ (by omega)]; omega
     have HS2 := Lh hs2
     clear hlt hn hs hs2
     go_wp2_with fail
     go_loopw [7, 8] (fun x y wr => ∃ (a : Nat) (T : Nat → Nat), x = .int .i64 a ∧ y = .int .i64 ((a + s2 : Nat) : Int) ∧ Hid (a ≤ n) ∧ Hid (Wr b w wr) ∧ Hid (Row2 wr b n T c) ∧ Hid (MrgB K s n a T)) (fun x _ _ => n - (intOf x).toNat)
     case atStart => exact ⟨0, R, rfl, by simp, Lh (Nat.zero_le _), HWr, HR, Lh ⟨BS.start HB.out, Nat.zero_mod _⟩⟩
     case round =>
      clear HWr HR HB
      obtain ⟨a, T, rfl, rfl, Ha, HWr, HR, HM⟩ := hrel
      obtain ⟨e, he⟩ : ∃ e, e = a + s2 := ⟨_, rfl⟩
      rw [← he]
      obtain ⟨m, hm⟩ : ∃ m, m = a + s := ⟨_, rfl⟩
      have hn := HN.out
      have ha := Ha.out
      have hS := HS.out
      have hs2 := HS2.out
      have e6 : IntKind.i64.wrap ((a : Int) + (s : Int)) = (m : Int) := by rw [IntWalk.i64_in _ (by omega)]; omega
      by_cases hle : e ≤ n
      ·have k1 : (e : Int) ≤ (n : Int) := by omega
       have C1 := Lh (CM.out a m e T wr (by omega) (by omega) (by omega) hle (by
        have := HM.out.1.runs (e := e) (by omega) HM.out.2 (by omega) (by omega) hle
        rw [← hm] at this
        exact this) (BS.lt HM.out.1) HR.out (HC0.out.wr HWr.out))
       have HE := Lh (show e = a + s * 2 ∧ e ≤ n from ⟨by omega, hle⟩)
       have e7 : IntKind.i64.wrap ((e : Int) + (s2 : Int)) = ((e + s2 : Nat) : Int) := by rw [IntWalk.i64_in _ (by omega)]; omega
       clear he hle hn ha hS hs2 hm
       go_wp2_with ((first | go_at_call 202 | go_at_call 237); (with_reducible refine C1.out.mono ?_); rintro e w1 ⟨rfl, S, g1, r1, t1, t2⟩; have G1 := Lh (HWr.out.trans g1); have R1 := Lh r1; have HT := Lh (And.intro t1 t2); clear g1 r1 t1 t2 C1)
       clear e4 e6
       have HM2 := Lh (show MrgB K s n e S from ⟨by
        have hE := HE.out
        have hS := HS.out
        have := HM.out.1.step (e := e) (S := S) (by omega) HM.out.2 (.inl hE.1) hE.2 (by omega) HT.out.1 HT.out.2
        rwa [← hE.1] at this, by rw [HE.out.1, Nat.add_mod_right]; exact HM.out.2⟩)
       have hE := HE.out
       have hn := HN.out
       have hS := HS.out
       have o2 : a < e := by clear e7; omega
       clear CM HC0 HM HT
       go_roundw
       case rel => exact ⟨e, S, rfl, by first | rfl | (rw [e7]), Lh (by clear e7; omega), G1, R1, HM2⟩
       case measure => clear e7; simp only [intOf]; omega
      have k1 : ¬ (e : Int) ≤ (n : Int) := by omega
      have e8 : IntKind.i64.wrap ((s : Int) * 2) = (s2 : Int) := by rw [IntWalk.i64_in _ (by omega)]; omega
      by_cases hlm : m < n
      ·have k2 : (m : Int) < (n : Int) := by omega
       have C1 := Lh (CM.out a m n T wr (by omega) (by omega) hlm (Nat.le_refl _) (by
        have := HM.out.1.runs (e := n) (by omega) HM.out.2 (by omega) (by omega) (Nat.le_refl _)
        rw [← hm] at this
        exact this) (BS.lt HM.out.1) HR.out (HC0.out.wr HWr.out))
       have HE := Lh (show n < a + s * 2 from by omega)
       clear he hle hn ha hS hs2 hm hlm
       go_wp2_with ((first | go_at_call 202 | go_at_call 237); (with_reducible refine C1.out.mono ?_); rintro e w1 ⟨rfl, S, g1, r1, t1, t2⟩; have G1 := Lh (HWr.out.trans g1); have R1 := Lh r1; have HT := Lh (And.intro t1 t2); clear g1 r1 t1 t2 C1)
       clear e4 e6
       have HB2 := Lh (show Blk K s2 n S by
        have hE := HE.out
        have hS := HS.out
        have := HM.out.1.step (e := n) (S := S) (by omega) HM.out.2 (.inr ⟨rfl, by omega⟩) (Nat.le_refl _) Ha.out HT.out.1 HT.out.2
        rw [HS2.out]
        exact this.done (by omega))
       have hs2 := HS2.out
       have hn := HN.out
       have hS := HS.out
       have o1 : 20 ≤ s2 ∧ s2 ≤ 2000 ∧ s < s2 := by clear e8; omega
       clear CM HC0 HM HT
       go_roundw
       case rel => exact ⟨s2, S, by first | rfl | (rw [e8]), Lh ⟨o1.1, o1.2.1⟩, G1, R1, HB2⟩
       case measure => clear e8; simp only [intOf]; omega
      have k2 : ¬ (m : Int) < (n : Int) := by omega
      have HB2 := Lh (show Blk K s2 n T by
       have h0 : Srt' K T a n := fun p q h1 h2 h3 => HM.out.1.srt2 p q h2 h3 h1 (by
        obtain ⟨z, hz⟩ : ∃ z, a = z * s := ⟨a / s, by
         have h2 := HM.out.2
         have : a % s = 0 := Nat.mod_eq_zero_of_dvd (Nat.dvd_trans ⟨2, rfl⟩ (Nat.dvd_of_mod_eq_zero h2))
         have := Nat.div_add_mod a s
         rw [Nat.mul_comm]; omega⟩
        have e1 : ∀ x, z * s ≤ x → x < z * s + s → x / s = z := fun x x1 x2 => by
         have := (Nat.div_lt_iff_lt_mul (show 0 < s by omega) (x := x) (y := z + 1)).2 (by rw [Nat.add_mul]; omega)
         have := (Nat.le_div_iff_mul_le (show 0 < s by omega) (x := z) (y := x)).2 x1
         omega
        rw [e1 p (by omega) (by omega), e1 q (by omega) (by omega)])
       have := HM.out.1.step (e := n) (S := T) (by omega) HM.out.2 (.inr ⟨rfl, by omega⟩) (Nat.le_refl _) Ha.out h0 (Prm.refl _ _ _)
       rw [hs2]
       exact this.done (by omega))
      clear he hle hn ha hS hs2 hm hlm
      go_wp2_with fail
      clear e4 e6
      have hs2 := HS2.out
      have hn := HN.out
      have hS := HS.out
      have o1 : 20 ≤ s2 ∧ s2 ≤ 2000 ∧ s < s2 := by clear e8; omega
      clear CM HC0 HM
      go_roundw
      case rel => exact ⟨s2, T, by first | rfl | (rw [e8]), Lh ⟨o1.1, o1.2.1⟩, HWr, HR, HB2⟩
      case measure => clear e8; simp only [intOf]; omega
    have j1 : ¬ (s : Int) < (n : Int) := by omega
    have HA := Lh (HB.out.all (by omega))
    clear hn hs
    go_wp2_with fail
    go_end0
    exact ⟨rfl, R, HWr.out, HR.out, HA.out, HB.out.prm⟩) : P := h
theorem stable_any (b cap n : Nat) (c : Nat → Rw) (K : Nat → List Int) (w : World) (hn : n ≤ 1000) (hw : Row2 w b n (fun p => p) c) (hC : CmpOk w b n c K) :
  Calls Tryz.prog 203 #[.slice (some ⟨b, 0, none⟩) n cap, .int .i64 n, .func (.func 173) #[] #[]] w (RetSr b n c (fun R' => Srt' K R' 0 n ∧ Prm 0 n (fun p => p) R') w) := by have zS := trivial; exact scrT5s_stable_any
theorem sort_any (b cap n : Nat) (c : Nat → Rw) (K : Nat → List Int) (w : World) (hn : n ≤ 1000) (hw : Row2 w b n (fun p => p) c) (hC : CmpOk w b n c K) :
  Calls Tryz.prog 172 #[.slice (some ⟨b, 0, none⟩) n cap, .func (.func 173) #[] #[]] w (RetSr b n c (fun R' => Srt' K R' 0 n ∧ Prm 0 n (fun p => p) R') w) := by
 have C := Lh (stable_any b cap n c K w hn hw hC)
 clear hn hw hC
 go_enter Tryz.func172, Tryz.ntmps172
 go_wp2_with (go_at_call 203; (with_reducible refine C.out.mono ?_); rintro e w1 ⟨rfl, S, g1, r1, t1⟩; have H1 := Lh (And.intro g1 (And.intro r1 t1)); clear g1 r1 t1)
 go_end0
 exact ⟨rfl, S, H1.out⟩
abbrev EW : World := default
def Rep (w : World) (y : Nat) (d : SL) : Prop := OwL w y d.length d
theorem Rep.gr {w w' : World} {y : Nat} {d : SL} (h : Rep w y d) (g : Gr w w') : Rep w' y d := OwL.gr h g
theorem Rep.wr {w w' : World} {y : Nat} {d : SL} (h : Rep w y d) {b : Nat} {cur : Array Value} {e : TypeId} {fz : Nat × Nat} (hb : w.heap[b]? = some (.cells cur e fz)) (g : Wr b w w') : Rep w' y d := OwL.wr h g fun e => by
 obtain ⟨es, clock, hm, _⟩ := h
 rw [e, hb] at hm
 cases hm
def pkr (raw : List Rw) : List Value := raw.flatMap fun x => [.slice x.a x.n x.c, .map (some x.y)]
theorem pkr_length (raw : List Rw) : (pkr raw).length = raw.length * 2 := by
 induction raw with
 | nil => rfl
 | cons m ms ih =>
  have : pkr (m :: ms) = [.slice m.a m.n m.c, .map (some m.y)] ++ pkr ms := rfl
  rw [this, List.length_append, ih]; simp; omega
theorem pkr_append (a b : List Rw) : pkr (a ++ b) = pkr a ++ pkr b := by simp [pkr]
theorem pkr_at : ∀ (raw : List Rw) (i : Nat) (x : Rw), raw[i]? = some x → (pkr raw)[i * 2]? = some (.slice x.a x.n x.c) ∧ (pkr raw)[i * 2 + 1]? = some (.map (some x.y))
 | [], i, x, h => by simp at h
 | m :: ms, i, x, h => by
  have e : pkr (m :: ms) = .slice m.a m.n m.c :: .map (some m.y) :: pkr ms := rfl
  cases i with
  | zero => simp at h; subst h; rw [e]; exact ⟨rfl, rfl⟩
  | succ i =>
   have := pkr_at ms i x (by simpa using h)
   rw [e, show (i + 1) * 2 = i * 2 + 1 + 1 by omega]
   simpa using this
def RdR (w : World) (a : Option Addr) (n c : Nat) (raw : List Rw) : Prop := n = raw.length ∧ n ≤ c ∧ c ≤ 9223372036854775807 ∧ (a = none → c = 0) ∧ (n = 0 ∨ ∃ b o, a = some ⟨b, o, none⟩ ∧ ∀ i x, raw[i]? = some x → w.cell? ⟨b, o + i * 2, none⟩ = some (.slice x.a x.n x.c) ∧ w.cell? ⟨b, o + i * 2 + 1, none⟩ = some (.map (some x.y)))
theorem RdR.gr {w w' : World} {a : Option Addr} {n c : Nat} {raw : List Rw} (h : RdR w a n c raw) (g : Gr w w') : RdR w' a n c raw := by
 obtain ⟨h1, h2, h3, h4, h5⟩ := h
 refine ⟨h1, h2, h3, h4, ?_⟩
 rcases h5 with h5 | ⟨b, o, e, hc⟩
 ·exact .inl h5
 exact .inr ⟨b, o, e, fun i x hi => ⟨g.cell (hc i x hi).1, g.cell (hc i x hi).2⟩⟩
theorem RdR.at {w : World} {a : Option Addr} {n c : Nat} {raw : List Rw} (h : RdR w a n c raw) {k : Nat} (hk : k < n) : ∃ b o x, a = some ⟨b, o, none⟩ ∧ raw[k]? = some x ∧ w.cell? ⟨b, o + k * 2, none⟩ = some (.slice x.a x.n x.c) ∧ w.cell? ⟨b, o + k * 2 + 1, none⟩ = some (.map (some x.y)) := by
 obtain ⟨h1, h2, h3, h4, h5⟩ := h
 rcases h5 with h5 | ⟨b, o, e, hc⟩
 ·omega
 have hx : raw[k]? = some (raw[k]'(by omega)) := List.getElem?_eq_getElem (by omega)
 exact ⟨b, o, _, e, hx, hc k _ hx⟩
def Dat (_w0 w : World) (raw : List Rw) (L : Tbl SL) : Prop := raw.length = L.length ∧ ∀ (i : Nat) (x : Rw) (r : List Int × SL), raw[i]? = some x → L[i]? = some r → Rd3 w x.a x.n x.c r.1 ∧ Old EW w 3 x.n x.a ∧ Rep w x.y r.2
theorem Dat.gr {w0 w w' : World} {raw : List Rw} {L : Tbl SL} (h : Dat w0 w raw L) (g : Gr w w') : Dat w0 w' raw L := ⟨h.1, fun i x r hx hr => by
 obtain ⟨h1, h2, h3⟩ := h.2 i x r hx hr
 exact ⟨h1.gr g, h2.gr g, h3.gr g⟩⟩
theorem Dat.wr {w0 w w' : World} {raw : List Rw} {L : Tbl SL} (h : Dat w0 w raw L) {b : Nat} {cur : Array Value} {e : TypeId} {fz : Nat × Nat} (hb : w.heap[b]? = some (.cells cur e fz)) (hne : 3 ≠ e) (_h0 : w0.heap.size ≤ b) (g : Wr b w w') : Dat w0 w' raw L := ⟨h.1, fun i x r hx hr => by
 obtain ⟨h1, h2, h3⟩ := h.2 i x r hx hr
 have ho := h2.off (show EW.heap.size ≤ b from Nat.zero_le _) hb hne
 exact ⟨h1.wr g ho, h2.wr g ho, h3.wr hb g⟩⟩
theorem Dat.nil (w0 w : World) : Dat w0 w [] [] := ⟨rfl, fun i x r hx _ => by simp at hx⟩
theorem Dat.base {w0 w1 w : World} {raw : List Rw} {L : Tbl SL} (h : Dat w0 w raw L) (_g : w0.heap.size ≤ w1.heap.size) : Dat w1 w raw L := ⟨h.1, fun i x r hx hr => by
 obtain ⟨h1, h2, h3⟩ := h.2 i x r hx hr
 exact ⟨h1, h2, h3⟩⟩
theorem Dat.own {w0 w : World} {raw : List Rw} {L : Tbl SL} (h : Dat w0 w raw L) : Dat w w raw L := ⟨h.1, fun i x r hx hr => by
 exact h.2 i x r hx hr⟩
theorem scrTDs_Datsnoc {P : Prop} (h : P := by
  refine ⟨by simp [h.1], fun i y s hy hs => ?_⟩
  rcases Nat.lt_or_ge i raw.length with k | k
  ·rw [List.getElem?_append_left k] at hy
   rw [List.getElem?_append_left (by have := h.1; omega)] at hs
   exact h.2 i y s hy hs
  rw [List.getElem?_append_right k] at hy
  rw [List.getElem?_append_right (by have := h.1; omega)] at hs
  have hi : i - raw.length = 0 := by
   rcases Nat.eq_zero_or_pos (i - raw.length) with q | q
   ·exact q
   rw [List.getElem?_eq_none (by simp; omega)] at hy; cases hy
  rw [hi] at hy
  rw [← h.1, hi] at hs
  simp at hy hs
  subst hy; subst hs
  exact ⟨h1, h2, h3⟩) : P := h
theorem Dat.snoc {w0 w : World} {raw : List Rw} {L : Tbl SL} (h : Dat w0 w raw L) {x : Rw} {r : List Int × SL} (h1 : Rd3 w x.a x.n x.c r.1) (h2 : Old EW w 3 x.n x.a) (h3 : Rep w x.y r.2) : Dat w0 w (raw ++ [x]) (L ++ [r]) := by exact scrTDs_Datsnoc
theorem scrTDs_Datappend {P : Prop} (h : P := by
  refine ⟨by simp [h.1, h'.1], fun i y s hy hs => ?_⟩
  rcases Nat.lt_or_ge i raw.length with k | k
  ·rw [List.getElem?_append_left k] at hy
   rw [List.getElem?_append_left (by have := h.1; omega)] at hs
   exact h.2 i y s hy hs
  rw [List.getElem?_append_right k] at hy
  rw [List.getElem?_append_right (by have := h.1; omega), ← h.1] at hs
  exact h'.2 _ y s hy hs) : P := h
theorem Dat.append {w0 w : World} {raw raw' : List Rw} {L L' : Tbl SL} (h : Dat w0 w raw L) (h' : Dat w0 w raw' L') : Dat w0 w (raw ++ raw') (L ++ L') := by exact scrTDs_Datappend
theorem Dat.at {w0 w : World} {raw : List Rw} {L : Tbl SL} (h : Dat w0 w raw L) {k : Nat} {x : Rw} (hx : raw[k]? = some x) : ∃ r, L[k]? = some r ∧ Rd3 w x.a x.n x.c r.1 ∧ Old EW w 3 x.n x.a ∧ Rep w x.y r.2 := by
 have hk : k < raw.length := by
  rcases Nat.lt_or_ge k raw.length with q | q
  ·exact q
  rw [List.getElem?_eq_none q] at hx; cases hx
 have hr : L[k]? = some (L[k]'(by have := h.1; omega)) := List.getElem?_eq_getElem (by have := h.1; omega)
 exact ⟨_, hr, h.2 k x _ hx hr⟩
def RdT (w0 w : World) (a : Option Addr) (n c : Nat) (T : Tbl SL) : Prop := ∃ raw, RdR w a n c raw ∧ Dat w0 w raw T
theorem RdT.gr {w0 w w' : World} {a : Option Addr} {n c : Nat} {T : Tbl SL} (h : RdT w0 w a n c T) (g : Gr w w') : RdT w0 w' a n c T := by
 obtain ⟨raw, h1, h2⟩ := h
 exact ⟨raw, h1.gr g, h2.gr g⟩
theorem RdT.own {w0 w : World} {a : Option Addr} {n c : Nat} {T : Tbl SL} (h : RdT w0 w a n c T) : RdT w w a n c T := by
 obtain ⟨raw, h1, h2⟩ := h
 exact ⟨raw, h1, h2.own⟩
theorem RdT.len {w0 w : World} {a : Option Addr} {n c : Nat} {T : Tbl SL} (h : RdT w0 w a n c T) : n = T.length := by
 obtain ⟨raw, h1, h2⟩ := h
 exact h1.1.trans h2.1
def OwnR (w0 w : World) (v : Value) (raw : List Rw) : Prop := w.ownsRow w0.heap.size 121 2 v raw.length (pkr raw) ∧ Gr w0 w
theorem OwnR.nil' {w0 w : World} (g : Gr w0 w) : OwnR w0 w (.slice none 0 0) [] := ⟨World.ownsRow_nil w _ _ _, g⟩
theorem OwnR.nil (w : World) : OwnR w w (.slice none 0 0) [] := OwnR.nil' (Gr.refl w)
theorem OwnR.gr {w0 w w' : World} {v : Value} {raw : List Rw} (h : OwnR w0 w v raw) (g : Gr w w') : OwnR w0 w' v raw :=
 ⟨h.1.kept (row := none) ⟨g.os, g.tape, g.output, Gr.size g, fun k hk _ => Below.block g k hk⟩ (by cases v.ownBlock <;> simp), h.2.trans g⟩
theorem OwnR.alloc {w0 w : World} {v : Value} {raw : List Rw} (h : OwnR w0 w v raw) (o : Obj) : OwnR w0 (w.alloc o) v raw := h.gr ((Gr.refl w).alloc o)
theorem OwnR.drew {w0 w : World} {v : Value} {raw : List Rw} (h : OwnR w0 w v raw) : OwnR w0 w.drew v raw := h.gr ((Gr.refl w).drew)
theorem scrTDs_OwnRrd {P : Prop} (h : P := by
  have h0 := h.1
  obtain ⟨hl, hv⟩ := h.1
  rcases hv with ⟨rfl, hz⟩ | ⟨g, cap, cur, rfl, hb, hg, hnc, hcm, hcs, htake⟩
  ·exact ⟨none, 0, by rw [hz], rfl, by omega, by omega, fun _ => rfl, .inl hz⟩
  refine ⟨_, _, rfl, rfl, hnc, by unfold maxLen at hcm; omega, (fun k => by cases k), .inr ⟨g, 0, rfl, fun i x hi => ?_⟩⟩
  obtain ⟨p0, p1⟩ := pkr_at raw i x hi
  have c0 := h0.cells (g := g) rfl _ _ p0
  have c1 := h0.cells (g := g) rfl _ _ p1
  rw [add_flat rfl] at c0 c1
  exact ⟨c0, by rw [Nat.add_assoc]; exact c1⟩) : P := h
theorem OwnR.rd {w0 w : World} {v : Value} {raw : List Rw} (h : OwnR w0 w v raw) : ∃ a c, v = .slice a raw.length c ∧ RdR w a raw.length c raw := by exact scrTDs_OwnRrd
theorem scrTDs_OwnRblk {P : Prop} (h : P := by
  have h0 := h.1
  obtain ⟨hl, hv⟩ := h.1
  rcases hv with ⟨rfl, hz⟩ | ⟨g, cap, cur, rfl, hb, hg, hnc, hcm, hcs, htake⟩
  ·exact .inl ⟨rfl, List.length_eq_zero_iff.1 hz⟩
  refine .inr ⟨g, cap, cur, rfl, hnc, by unfold maxLen at hcm; omega, hb, (h0.lt g rfl).2, hg, fun i x hi => ?_⟩
  obtain ⟨p0, p1⟩ := pkr_at raw i x hi
  have c0 := h0.cells (g := g) rfl _ _ p0
  have c1 := h0.cells (g := g) rfl _ _ p1
  rw [add_flat rfl] at c0 c1
  simp only [Nat.zero_add] at c0 c1
  exact ⟨c0, c1, h0.frozenAt _, h0.frozenAt _⟩) : P := h
theorem OwnR.blk {w0 w : World} {v : Value} {raw : List Rw} (h : OwnR w0 w v raw) : (v = .slice none 0 0 ∧ raw = []) ∨ ∃ g c cur, v = .slice (some ⟨g, 0, none⟩) raw.length c ∧ raw.length ≤ c ∧ c ≤ 9223372036854775807 ∧ w0.heap.size ≤ g ∧ g < w.heap.size ∧ w.heap[g]? = some (.cells cur 121 (0, 0)) ∧ ∀ i x, raw[i]? = some x → w.cell? ⟨g, i * 2, none⟩ = some (.slice x.a x.n x.c) ∧ w.cell? ⟨g, i * 2 + 1, none⟩ = some (.map (some x.y)) ∧ w.frozen? ⟨g, i * 2, none⟩ = false ∧ w.frozen? ⟨g, i * 2 + 1, none⟩ = false := by exact scrTDs_OwnRblk
theorem Dat.grown {w0 w w' : World} {v : Value} {raw raw' : List Rw} {L : Tbl SL} (h : Dat w0 w raw' L) (ho : OwnR w0 w v raw) (g : w.grownBy w' v.ownBlock) : Dat w0 w' raw' L := by
 rcases ho.blk with ⟨rfl, _⟩ | ⟨b, c, cur, rfl, _, _, hb, _, hg, _⟩
 ·exact h.gr ((Gr.refl w).grown g fun k hk => by cases hk)
 exact h.wr hg (by decide) hb g
theorem infoR : (Tryz.prog.info? 121).map (fun i => (i.zero, i.size, i.bytes)) = some (some (.agg #[.slice none 0 0, .map none]), 2, 32) := by kernel_rfl
theorem info_row : ∃ i, Tryz.prog.info? 121 = some i ∧ i.zero = some (.agg #[.slice none 0 0, .map none]) ∧ i.size = 2 ∧ i.bytes = 32 := by
 have h := infoR
 cases hi : Tryz.prog.info? 121 with
 | none => rw [hi] at h; cases h
 | some i => rw [hi] at h; simp at h; exact ⟨i, rfl, h.1, h.2.1, h.2.2⟩
theorem scrTDs_wp_cat_row {P : Prop} (h : P := by
  obtain ⟨i0, hi, hz0, hz1, hz2⟩ := info_row
  first | (have z := zS; clear z; refine wp_append_own w s x t ho w0.heap.size 121 i0 _ 2 32 ht hi hz0 hz1 hz2 rfl (by decide) v raw.length (pkr raw) hs hown.1 ⟨b, off, none⟩ n c (pkr X) hx (by rw [pkr_length, hX]) ?_ ?_ ?_ ?_ hown.2.size ?_) | (refine wp_append_own w s x t ho w0.heap.size 98 i0 _ 2 32 ht hi hz0 hz1 hz2 rfl (by decide) v raw.length (pkr raw) hs hown.1 ⟨b, off, none⟩ n c (pkr X) hx (by rw [pkr_length, hX]) ?_ ?_ ?_ ?_ hown.2.size ?_)
  ·intro j u hu
   rw [add_flat rfl]
   have hj : j < n * 2 := by
    rcases Nat.lt_or_ge j (n * 2) with h | h
    ·exact h
    rw [List.getElem?_eq_none (by rw [pkr_length, hX]; exact h)] at hu; cases hu
   obtain ⟨q, hget⟩ : ∃ q, X[j / 2]? = some q := ⟨_, List.getElem?_eq_getElem (show j / 2 < X.length by omega)⟩
   obtain ⟨p0, p1⟩ := pkr_at X (j / 2) _ hget
   obtain ⟨k0, k1⟩ := hc (j / 2) _ hget
   rcases Nat.mod_two_eq_zero_or_one j with h | h
   ·have ej : j = j / 2 * 2 := by omega
    rw [ej, p0] at hu
    cases hu
    rw [show off + j = off + j / 2 * 2 by omega]
    exact k0
   have ej : j = j / 2 * 2 + 1 := by omega
   rw [ej, p1] at hu
   cases hu
   rw [show off + j = off + j / 2 * 2 + 1 by omega]
   exact k1
  ·intro u hu
   unfold pkr at hu
   rw [List.mem_flatMap] at hu
   obtain ⟨m, _, hm⟩ := hu
   simp at hm
   rcases hm with rfl | rfl <;> rfl
  ·unfold maxLen; omega
  ·omega
  intro v' w' h1 h2 _
  rw [← pkr_append] at h1
  refine h v' w' ⟨?_, hown.2.grown h2 fun k hk => (hown.1.lt k hk).1⟩ h2
  rw [List.length_append, hX]
  exact h1) : P := h
theorem wp_cat_row {o : Oper} {a : Act} {K : Act → World → Prop} {Q : Exit → Act → World → Prop} (s x : Operand) (t : TypeId)
  (ho : o.op = .call { callee := .builtin .append, args := #[s, x], argTypes := #[t, t] }) (ht : Tryz.prog.underlying t = some (.slice 121))
  {w0 w : World} (v : Value) (raw : List Rw) (hs : a.eval s = v) (hown : OwnR w0 w v raw)
  (b off n c : Nat) (X : List Rw) (hx : a.eval x = .slice (some ⟨b, off, none⟩) n c) (hX : X.length = n) (hc : ∀ i x, X[i]? = some x → w.cell? ⟨b, off + i * 2, none⟩ = some (.slice x.a x.n x.c) ∧ w.cell? ⟨b, off + i * 2 + 1, none⟩ = some (.map (some x.y))) (hk : raw.length + n ≤ 1000000)
  (h : ∀ v' w', OwnR w0 w' v' (raw ++ X) → w.grownBy w' v.ownBlock → K (a.put o.dst v') w') : o.wp Tryz.prog a w K Q := by have zS := trivial; exact scrTDs_wp_cat_row
section
variable {ops : Array Oper} {rest : List Oper} {o : Oper} {a : Act} {Q : Exit → Act → World → Prop}
theorem wpList_cat_row (hgd : o.guard = none) (s x : Operand) (t : TypeId)
  (ho : o.op = .call { callee := .builtin .append, args := #[s, x], argTypes := #[t, t] }) (ht : Tryz.prog.underlying t = some (.slice 121))
  {w0 w : World} (v : Value) (raw : List Rw) (hs : a.eval s = v) (hown : OwnR w0 w v raw)
  (b off n c : Nat) (X : List Rw) (hx : a.eval x = .slice (some ⟨b, off, none⟩) n c) (hX : X.length = n) (hc : ∀ i x, X[i]? = some x → w.cell? ⟨b, off + i * 2, none⟩ = some (.slice x.a x.n x.c) ∧ w.cell? ⟨b, off + i * 2 + 1, none⟩ = some (.map (some x.y))) (hk : raw.length + n ≤ 1000000)
  (h : ∀ v' w', OwnR w0 w' v' (raw ++ X) → w.grownBy w' v.ownBlock → wpList Tryz.prog ops Q rest (a.put o.dst v') w') : wpList Tryz.prog ops Q (o :: rest) a w :=
 wpList_plain hgd fun _ hK => wp_cat_row s x t ho ht v raw hs hown b off n c X hx hX hc hk fun v' w' h1 h2 => hK _ _ (h v' w' h1 h2)
theorem wpList_app_row (hgd : o.guard = none) (s x : Operand) (t : TypeId)
  (ho : o.op = .call { callee := .builtin .append, args := #[s, x], argTypes := #[t, t] }) (ht : Tryz.prog.underlying t = some (.slice 121))
  {w0 w : World} (v : Value) (raw : List Rw) (hs : a.eval s = v) (hown : OwnR w0 w v raw)
  (g : Nat) (r : Rw) (hx : a.eval x = .slice (some ⟨g, 0, none⟩) 1 1) (hg : w.cell? ⟨g, 0, none⟩ = some (.slice r.a r.n r.c) ∧ w.cell? ⟨g, 1, none⟩ = some (.map (some r.y))) (hk : raw.length < 999999)
  (h : ∀ v' w', OwnR w0 w' v' (raw ++ [r]) → w.grownBy w' v.ownBlock → wpList Tryz.prog ops Q rest (a.put o.dst v') w') : wpList Tryz.prog ops Q (o :: rest) a w :=
 wpList_cat_row hgd s x t ho ht v raw hs hown g 0 1 1 [r] hx rfl (fun i y hy => by
  cases i with
  | zero => simp at hy; subst hy; exact hg
  | succ i => simp at hy) (by omega) h
end
theorem boxr (w : World) (u v : Value) (e : TypeId) : (w.alloc (.cells #[u, v] e)).cell? ⟨w.heap.size, 0, none⟩ = some u ∧ (w.alloc (.cells #[u, v] e)).cell? ⟨w.heap.size, 1, none⟩ = some v := by simp
theorem boxr' {w w1 : World} {u v : Value} {e : TypeId} {b : Nat} (h : w.alloc (.cells #[u, v] e) = w1) (hb : w.heap.size = b) : w1.cell? ⟨b, 0, none⟩ = some u ∧ w1.cell? ⟨b, 1, none⟩ = some v := by subst h; subst hb; exact boxr w u v e
theorem scrT6s_cmp_any {P : Prop} (h : P := by
  obtain ⟨xa, xn, xc, xy⟩ := x
  obtain ⟨ya, yn, yc, yy⟩ := y
  simp only at h1 h2 ⊢
  first | (have z := zS; clear z; obtain ⟨w1, hw1⟩ : ∃ w1, w.alloc (.cells #[.slice xa xn xc, .map (some xy)] 121) = w1 := ⟨_, rfl⟩) | (obtain ⟨w1, hw1⟩ : ∃ w1, w.alloc (.cells #[.slice xa xn xc, .int .i64 xy] 98) = w1 := ⟨_, rfl⟩)
  first | (have z := zS; clear z; obtain ⟨w2, hw2⟩ : ∃ w2, w1.alloc (.cells #[.slice ya yn yc, .map (some yy)] 121) = w2 := ⟨_, rfl⟩) | (obtain ⟨w2, hw2⟩ : ∃ w2, w1.alloc (.cells #[.slice ya yn yc, .int .i64 yy] 98) = w2 := ⟨_, rfl⟩)
  have g1 : Gr w w1 := hw1 ▸ (Gr.refl w).alloc _
  have g2 : Gr w1 w2 := hw2 ▸ (Gr.refl w1).alloc _
  have s1 : w1.heap.size = w.heap.size + 1 := by rw [← hw1]; simp
  obtain ⟨z0, _⟩ := boxr' hw1 rfl
  obtain ⟨y0, _⟩ := boxr' hw2 s1
  replace z0 := g2.cell z0
  have C := Lh (Compare_any xa ya xn yn xc yc L M w2 (h1.gr (g1.trans g2)) (h2.gr (g1.trans g2)))
  have HG := Lh (g1.trans g2)
  clear h1 h2 g1 g2
  first | (have z := zS; clear z; go_enter Tryz.func173, Tryz.ntmps173) | (go_enter Tryz.func133, Tryz.ntmps133)
  go_wp2_with (go_at_call 91; (with_reducible refine C.out.mono ?_); rintro e w3 ⟨rfl, g3⟩; have G3 := Lh g3; clear g3)
  go_ret
  exact ⟨rfl, HG.out.trans G3.out⟩) : P := h
theorem cmp_any (x y : Rw) (L M : List Int) (w : World) (h1 : Rd3 w x.a x.n x.c L) (h2 : Rd3 w y.a y.n y.c M) :
  Calls Tryz.prog 173 #[.agg #[.slice x.a x.n x.c, .map (some x.y)], .agg #[.slice y.a y.n y.c, .map (some y.y)]] w (RetZ (cmpI L M) w) := by have zS := trivial; exact scrT6s_cmp_any
theorem ins_nil (w : World) (F : Value) : Calls Tryz.prog 236 #[.slice none 0 0, .int .i64 0, .int .i64 0, F] w fun e w' => e = .returned (.tuple #[]) ∧ w = w' := by
 go_enter Tryz.func236, Tryz.ntmps236
 go_wp2_with fail
 refine wp_loop_rounds 1 ?_
 rw [rounds_succ]
 go_wp2_with fail
 go_end0
 exact ⟨rfl, rfl⟩
theorem stable_nil (w : World) (F : Value) : Calls Tryz.prog 203 #[.slice none 0 0, .int .i64 0, F] w fun e w' => e = .returned (.tuple #[]) ∧ w = w' := by
 have C := Lh (show ∀ w, Calls Tryz.prog 236 #[.slice none 0 0, .int .i64 0, .int .i64 0, F] w fun e w' => e = .returned (.tuple #[]) ∧ w = w' from fun w => ins_nil w F)
 go_enter Tryz.func203, Tryz.ntmps203
 go_wp2_with fail
 refine wp_loop_rounds 1 ?_
 rw [rounds_succ]
 go_wp2_with (go_at_call 236; (with_reducible refine (C.out _).mono ?_); rintro e w1 ⟨rfl, rfl⟩)
 refine wp_loop_rounds 1 ?_
 rw [rounds_succ]
 go_wp2_with fail
 go_end0
 exact ⟨rfl, rfl⟩
theorem sort_nil (w : World) (F : Value) : Calls Tryz.prog 172 #[.slice none 0 0, F] w fun e w' => e = .returned (.tuple #[]) ∧ w = w' := by
 have C := Lh (show ∀ w, Calls Tryz.prog 203 #[.slice none 0 0, .int .i64 0, F] w fun e w' => e = .returned (.tuple #[]) ∧ w = w' from fun w => stable_nil w F)
 go_enter Tryz.func172, Tryz.ntmps172
 go_wp2_with (go_at_call 203; (with_reducible refine (C.out _).mono ?_); rintro e w1 ⟨rfl, rfl⟩)
 go_end0
 exact ⟨rfl, rfl⟩
def rwAt (raw : List Rw) (i : Nat) : Rw := raw.getD i ⟨none, 0, 0, 0⟩
def kyAt (L : Tbl SL) (i : Nat) : List Int := (L.getD i ([], [])).1
def vlAt (L : Tbl SL) (i : Nat) : SL := (L.getD i ([], [])).2
theorem rw_get {raw : List Rw} {i : Nat} (h : i < raw.length) : raw[i]? = some (rwAt raw i) := by
 unfold rwAt
 rw [List.getD_eq_getElem?_getD, List.getElem?_eq_getElem h]; rfl
theorem ky_get {L : Tbl SL} {i : Nat} (h : i < L.length) : L[i]? = some (kyAt L i, vlAt L i) := by
 unfold kyAt vlAt
 rw [List.getD_eq_getElem?_getD, List.getElem?_eq_getElem h]; rfl
theorem ky_all (L : Tbl SL) : ((List.range L.length).map fun i => (kyAt L i, vlAt L i)) = L := by
 refine List.ext_getElem? fun i => ?_
 rcases Nat.lt_or_ge i L.length with k | k
 ·rw [List.getElem?_map, List.getElem?_range k, ky_get k]; rfl
 rw [List.getElem?_eq_none (by simpa using k), List.getElem?_eq_none k]
structure SrtOf (L L' : Tbl SL) : Prop where
 len : L'.length = L.length
 gat : ∀ add, gat add L' = gat add L
 ord : ∀ i j, i < j → j < L'.length → ¬ kyAt L' j < kyAt L' i
 mem : ∀ x ∈ L', x ∈ L
 sum : ∀ μ : SL → Nat, sumT μ L' = sumT μ L
def Keep (v : Value) (w w' : World) : Prop := ∀ p u, w.cell? p = some u → v.ownBlock ≠ some p.block → w'.cell? p = some u
theorem Keep.of_wr {g : Nat} {n c : Nat} {w w' : World} (h : Wr g w w') : Keep (.slice (some ⟨g, 0, none⟩) n c) w w' := fun p u hp hne => h.cell hp fun e => hne (by rw [e]; rfl)
theorem Keep.of_gr {v : Value} {w w' : World} (h : Gr w w') : Keep v w w' := fun _ _ hp _ => h.cell hp
theorem Keep.trans {v : Value} {a b c : World} (h : Keep v a b) (k : Keep v b c) : Keep v a c := fun p u hp hne => k p u (h p u hp hne) hne
def RetSt (w0 : World) (v : Value) (L : Tbl SL) (w : World) (e : Ending) (w' : World) : Prop := e = .returned (.tuple #[]) ∧ ∃ a n c raw' L', v = .slice a n c ∧ RdR w' a n c raw' ∧ Dat w0 w' raw' L' ∧ SrtOf L L' ∧ Gr w0 w' ∧ Keep v w w'
theorem SrtOf.refl (L : Tbl SL) (h : L.length ≤ 1) : SrtOf L L := ⟨rfl, fun _ => rfl, fun i j h1 h2 => by omega, fun _ h => h, fun _ => rfl⟩
theorem scrT6s_SrtOfof {P : Prop} (h : P := by
  obtain ⟨hp, hs⟩ := stable_list h1 h2
  have hl : ((List.range L.length).map fun p => (kyAt L (R p), vlAt L (R p))).length = L.length := by simp
  have e1 : ((List.range L.length).map fun p => (kyAt L (R p), vlAt L (R p))) = ((List.range L.length).map R).map fun i => (kyAt L i, vlAt L i) := by rw [List.map_map]; rfl
  have hlt : ∀ p, p < L.length → R p < L.length := fun p hp => by
   obtain ⟨q, _, h, e⟩ := h2.from_ p (Nat.zero_le _) hp
   rw [e]; exact h
  have hperm : (((List.range L.length).map R).map fun i => (kyAt L i, vlAt L i)).Perm L := by
   have := hp.map (fun i => (kyAt L i, vlAt L i))
   rwa [ky_all] at this
  refine ⟨hl, fun add => ?_, fun i j hij hj hlt' => ?_, fun x hx => ?_, fun μ => ?_⟩
  ·rw [e1, gat_stable add hp hs, ky_all]
  ·rw [hl] at hj
   have k : ∀ i, i < L.length → kyAt ((List.range L.length).map fun p => (kyAt L (R p), vlAt L (R p))) i = kyAt L (R i) := fun i hi => by
    conv => lhs; unfold kyAt
    rw [List.getD_eq_getElem?_getD, List.getElem?_map, List.getElem?_range hi]; rfl
   rw [k i (by omega), k j hj] at hlt'
   rcases h1 i j (Nat.zero_le _) hij hj with h | ⟨h, _⟩
   ·exact List.lt_asymm h hlt'
   rw [h] at hlt'; exact List.lt_irrefl _ hlt'
  ·rw [e1] at hx
   exact hperm.subset hx
  rw [e1]
  unfold sumT
  exact (hperm.map _).sum_nat) : P := h
theorem SrtOf.of {L : Tbl SL} {R : Nat → Nat} (h1 : Srt' (kyAt L) R 0 L.length) (h2 : Prm 0 L.length (fun p => p) R) : SrtOf L ((List.range L.length).map fun p => (kyAt L (R p), vlAt L (R p))) := by exact scrT6s_SrtOfof
theorem scrT6s_sortT {P : Prop} (h : P := by
  have G0 := hO.2
  rcases hO.blk with ⟨rfl, rfl⟩ | ⟨g, c, cur, rfl, h1, h2, h3, h4, h5, h6⟩
  ·refine (sort_nil w _).mono ?_
   rintro e w' ⟨rfl, rfl⟩
   have hL : L = [] := List.length_eq_zero_iff.1 (by rw [← hD.1]; rfl)
   subst hL
   exact ⟨rfl, none, 0, 0, [], [], rfl, ⟨rfl, Nat.le_refl _, by omega, fun _ => rfl, .inl rfl⟩, hD, SrtOf.refl [] (by simp), G0, Keep.of_gr (Gr.refl _)⟩
  have hl : raw.length = L.length := hD.1
  have hw : Row2 w g raw.length (fun p => p) (rwAt raw) := fun p hp => h6 p _ (rw_get hp)
  have hC : CmpOk w g raw.length (rwAt raw) (kyAt L) := fun w' k i j hi hj => by
   have hD' := hD.wr h5 (by decide) h3 k
   obtain ⟨a1, _⟩ := hD'.2 i _ _ (rw_get hi) (ky_get (by omega))
   obtain ⟨b1, _⟩ := hD'.2 j _ _ (rw_get hj) (ky_get (by omega))
   exact cmp_any _ _ _ _ w' a1 b1
  refine (sort_any g c raw.length (rwAt raw) (kyAt L) w (by omega) hw hC).mono ?_
  rintro e w' ⟨rfl, R, k1, k2, k3, k4⟩
  rw [hl] at k3 k4
  have hD' := hD.wr h5 (by decide) h3 k1
  have hlt : ∀ p, p < L.length → R p < L.length := fun p hp => by
   obtain ⟨q, _, h, e⟩ := k4.from_ p (Nat.zero_le _) hp
   rw [e]; exact h
  refine ⟨rfl, some ⟨g, 0, none⟩, raw.length, c, (List.range raw.length).map (fun p => rwAt raw (R p)), _, rfl, ⟨by simp, h1, h2, (fun k => by cases k), .inr ⟨g, 0, rfl, fun i x hx => ?_⟩⟩, ⟨by simp [hl], fun i x r hx hr => ?_⟩, SrtOf.of k3 k4, k1.gr G0 h3, Keep.of_wr k1⟩
  ·have hi : i < raw.length := by
    rcases Nat.lt_or_ge i raw.length with q | q
    ·exact q
    rw [List.getElem?_eq_none (by simpa using q)] at hx; cases hx
   rw [List.getElem?_map, List.getElem?_range hi] at hx
   simp at hx
   subst hx
   obtain ⟨q0, q1, _, _⟩ := k2 i hi
   rw [Nat.zero_add]
   exact ⟨q0, q1⟩
  have hi : i < raw.length := by
   rcases Nat.lt_or_ge i raw.length with q | q
   ·exact q
   rw [List.getElem?_eq_none (by simpa using q)] at hx; cases hx
  rw [List.getElem?_map, List.getElem?_range hi] at hx
  rw [List.getElem?_map, List.getElem?_range (by omega)] at hr
  simp at hx hr
  subst hx; subst hr
  exact hD'.2 (R i) _ _ (rw_get (by rw [hl]; exact hlt i (by omega))) (ky_get (hlt i (by omega)))) : P := h
theorem sortT (w0 w : World) (v : Value) (raw : List Rw) (L : Tbl SL) (hO : OwnR w0 w v raw) (hD : Dat w0 w raw L) (hn : L.length ≤ 1000) :
  Calls Tryz.prog 172 #[v, .func (.func 173) #[] #[]] w (RetSt w0 v L w) := by exact scrT6s_sortT
structure RF where
 p : Nat
 t : Nat
 s : Nat
 f : Nat
 pb : Array Value
 tb : Array Value
 sb : Array Value
 fb : Array Value
def BoxF (w : World) (bx : Nat) (F : RF) : Prop := w.cell? ⟨bx, 0, none⟩ = some (.func (.func F.p) #[] F.pb) ∧ w.cell? ⟨bx, 1, none⟩ = some (.func (.func F.t) #[] F.tb) ∧ w.cell? ⟨bx, 2, none⟩ = some (.func (.func F.s) #[] F.sb) ∧ w.cell? ⟨bx, 3, none⟩ = some (.func (.func F.f) #[] F.fb)
theorem BoxF.gr {w w' : World} {bx : Nat} {F : RF} (h : BoxF w bx F) (g : Gr w w') : BoxF w' bx F := ⟨g.cell h.1, g.cell h.2.1, g.cell h.2.2.1, g.cell h.2.2.2⟩
theorem BoxF.wr {w w' : World} {bx b : Nat} {F : RF} (h : BoxF w bx F) (g : Wr b w w') (hne : bx ≠ b) : BoxF w' bx F := ⟨g.cell h.1 hne, g.cell h.2.1 hne, g.cell h.2.2.1 hne, g.cell h.2.2.2 hne⟩
theorem BoxF.lt {w : World} {bx : Nat} {F : RF} (h : BoxF w bx F) : bx < w.heap.size := World.block_lt_of_cell? w _ h.1
def RetD (d : SL) (w : World) (e : Ending) (w' : World) : Prop := ∃ y, e = .returned (.map (some y)) ∧ Rep w' y d ∧ Gr w w'
structure RingOk (F : RF) (R : Rg SL) (G : SL → Prop) (μ : SL → Nat) (B : Nat) (w0 : World) : Prop where
 ep : ∀ args w, (callFunc F.p args).run Tryz.prog w = .ok (.enter F.p args) w
 et : ∀ args w, (callFunc F.t args).run Tryz.prog w = .ok (.enter F.t args) w
 es : ∀ args w, (callFunc F.s args).run Tryz.prog w = .ok (.enter F.s args) w
 ef : ∀ args w, (callFunc F.f args).run Tryz.prog w = .ok (.enter F.f args) w
 plus : ∀ w y z d e, Gr w0 w → Rep w y d → Rep w z e → G d → G e → μ d + μ e ≤ B → Calls Tryz.prog F.p (#[.map (some y), .map (some z)] ++ F.pb) w (RetD (R.add d e) w)
 times : ∀ w y z d e, Gr w0 w → Rep w y d → Rep w z e → G d → G e → R.stays d = true → R.stays e = true → R.fits d = true → R.fits e = true → Calls Tryz.prog F.t (#[.map (some y), .map (some z)] ++ F.tb) w (RetD (R.mul d e) w)
 stays : ∀ w y d, Gr w0 w → Rep w y d → G d → Calls Tryz.prog F.s (#[.map (some y)] ++ F.sb) w (RetB (R.stays d) w)
 fits : ∀ w y d, Gr w0 w → Rep w y d → G d → μ d ≤ B → Calls Tryz.prog F.f (#[.map (some y)] ++ F.fb) w (RetB (R.fits d) w)
 law : RgL R G
 mu : ∀ a b, G a → G b → μ (R.add a b) ≤ μ a + μ b
theorem RingOk.gr {F : RF} {R : Rg SL} {G : SL → Prop} {μ : SL → Nat} {B : Nat} {w0 w1 : World} (h : RingOk F R G μ B w0) (g : Gr w0 w1) : RingOk F R G μ B w1 :=
 ⟨h.ep, h.et, h.es, h.ef, fun w y z d e k => h.plus w y z d e (g.trans k), fun w y z d e k => h.times w y z d e (g.trans k), fun w y d k => h.stays w y d (g.trans k), fun w y d k => h.fits w y d (g.trans k), h.law, h.mu⟩
theorem goes_any (F : RF) (bx : Nat) (x : Rw) (b : Bool) (w : World) (he : ∀ args w, (callFunc F.s args).run Tryz.prog w = .ok (.enter F.s args) w) (hb : BoxF w bx F) (hc : ∀ w', Gr w w' → Calls Tryz.prog F.s (#[.map (some x.y)] ++ F.sb) w' (RetB b w')) :
  Calls Tryz.prog 175 #[.agg #[.slice x.a x.n x.c, .map (some x.y)], .pointer (some ⟨bx, 0, none⟩)] w (RetB (!b) w) := by
 obtain ⟨xa, xn, xc, xy⟩ := x
 simp only at hc ⊢
 obtain ⟨w1, hw1⟩ : ∃ w1, w.alloc (.cells #[.slice xa xn xc, .map (some xy)] 121) = w1 := ⟨_, rfl⟩
 have g1 : Gr w w1 := hw1 ▸ (Gr.refl w).alloc _
 obtain ⟨_, z1⟩ := boxr' hw1 rfl
 obtain ⟨_, _, b2, _⟩ := hb.gr g1
 have C := Lh (hc w1 g1)
 have HG := Lh g1
 have hcf := he
 clear hb hc g1 he
 go_enter Tryz.func175, Tryz.ntmps175
 go_wp2_with fail
 refine C.out.mono ?_
 rintro e w2 ⟨rfl, g2⟩
 have G2 := Lh g2
 clear g2
 go_wp2_with fail
 go_ret
 exact ⟨rfl, HG.out.trans G2.out⟩
theorem misfits_any (F : RF) (bx : Nat) (x : Rw) (b : Bool) (w : World) (he : ∀ args w, (callFunc F.f args).run Tryz.prog w = .ok (.enter F.f args) w) (hb : BoxF w bx F) (hc : ∀ w', Gr w w' → Calls Tryz.prog F.f (#[.map (some x.y)] ++ F.fb) w' (RetB b w')) :
  Calls Tryz.prog 177 #[.agg #[.slice x.a x.n x.c, .map (some x.y)], .pointer (some ⟨bx, 0, none⟩)] w (RetB (!b) w) := by
 obtain ⟨xa, xn, xc, xy⟩ := x
 simp only at hc ⊢
 obtain ⟨w1, hw1⟩ : ∃ w1, w.alloc (.cells #[.slice xa xn xc, .map (some xy)] 121) = w1 := ⟨_, rfl⟩
 have g1 : Gr w w1 := hw1 ▸ (Gr.refl w).alloc _
 obtain ⟨_, z1⟩ := boxr' hw1 rfl
 obtain ⟨_, _, _, b3⟩ := hb.gr g1
 have C := Lh (hc w1 g1)
 have HG := Lh g1
 have hcf := he
 clear hb hc g1 he
 go_enter Tryz.func177, Tryz.ntmps177
 go_wp2_with fail
 refine C.out.mono ?_
 rintro e w2 ⟨rfl, g2⟩
 have G2 := Lh g2
 clear g2
 go_wp2_with fail
 go_ret
 exact ⟨rfl, HG.out.trans G2.out⟩
def RetIx (q : Nat → Bool) (n : Nat) (w : World) (e : Ending) (w' : World) : Prop := (∃ z : Int, e = .returned (.int .i64 z) ∧ ((z = -1 ∧ ∀ i, i < n → q i = false) ∨ ∃ k : Nat, k < n ∧ z = k ∧ q k = true ∧ ∀ i, i < k → q i = false)) ∧ Gr w w'
theorem scrT7s_index_any {P : Prop} (h : P := by
  have HR := Lh hr
  have HC := Lh hc
  have hcf := he
  clear hr hc he
  first | (have z := zS; clear z; go_enter Tryz.func204, Tryz.ntmps204) | (go_enter Tryz.func170, Tryz.ntmps170)
  go_wp2_with fail
  go_loopw [8] (fun i wr => ∃ k : Nat, k ≤ n ∧ i = .int .i64 k ∧ Hid (∀ i, i < k → q i = false) ∧ Gr w wr) (fun i _ => n - (intOf i).toNat)
  case atStart => exact ⟨0, Nat.zero_le _, rfl, Lh (fun i hi => absurd hi (Nat.not_lt_zero i)), Gr.refl _⟩
  case round =>
   obtain ⟨k, hk, rfl, Hi, hg⟩ := hrel
   by_cases hlt : k < n
   ·obtain ⟨b, o, x, rfl, hx, c1, c2⟩ := (HR.out.gr hg).at hlt
    have i1 : (k : Int) < n := by omega
    have C := Lh (HC.out wr k x hg hx)
    obtain ⟨d, hd⟩ : ∃ d, d = q k := ⟨_, rfl⟩
    rw [← hd] at C
    have HD := Lh hd
    have HG := Lh hg
    clear hlt hd hx hg
    obtain ⟨xa, xn, xc, xy⟩ := x
    simp only at C c1 c2
    cases d with
    | true =>
     go_wp2_with fail
     refine C.out.mono ?_
     rintro e w1 ⟨rfl, g1⟩
     clear c1 c2
     go_wp2_with fail
     go_ret
     exact ⟨⟨(k : Int), rfl, .inr ⟨k, by omega, rfl, HD.out.symm, Hi.out⟩⟩, HG.out.trans g1⟩
    | false =>
     go_wp2_with fail
     refine C.out.mono ?_
     rintro e w1 ⟨rfl, g1⟩
     clear c1 c2
     go_wp2_with fail
     go_roundw
     case rel => exact ⟨k + 1, by omega, by go_num, Lh (fun i hi => by
      rcases Nat.lt_succ_iff_lt_or_eq.1 hi with h | rfl
      ·exact Hi.out i h
      exact HD.out.symm), HG.out.trans g1⟩
     case measure => simp [intOf]; omega
   obtain rfl : k = n := by omega
   go_wp2_with fail
   go_ret
   exact ⟨⟨-1, rfl, .inl ⟨rfl, Hi.out⟩⟩, hg⟩) : P := h
theorem index_any (h : Nat) (bx : Nat) (q : Nat → Bool) (a : Option Addr) (n cp : Nat) (raw : List Rw) (w : World) (hn : n ≤ 1000000) (hr : RdR w a n cp raw) (he : ∀ args w, (callFunc h args).run Tryz.prog w = .ok (.enter h args) w)
  (hc : ∀ w' i x, Gr w w' → raw[i]? = some x → Calls Tryz.prog h #[.agg #[.slice x.a x.n x.c, .map (some x.y)], .pointer (some ⟨bx, 0, none⟩)] w' (RetB (q i) w')) :
  Calls Tryz.prog 204 #[.slice a n cp, .func (.func h) #[] #[.pointer (some ⟨bx, 0, none⟩)]] w (RetIx q n w) := by have zS := trivial; exact scrT7s_index_any
theorem scrT7s_has_any {P : Prop} (h : P := by
  have C := Lh (index_any h bx q a n cp raw w hn hr he hc)
  clear hr hc he
  first | (have z := zS; clear z; go_enter Tryz.func176, Tryz.ntmps176) | (go_enter Tryz.func137, Tryz.ntmps137)
  go_upto_region 1 with fail
  go_wp2_with ((first | go_at_call 170 | go_at_call 204); (with_reducible refine C.out.mono ?_); rintro e w1 ⟨⟨z, rfl, hz⟩, g1⟩; have HZ := Lh hz; have G1 := Lh g1; clear hz g1)
  go_ret
  refine ⟨?_, G1.out⟩
  rcases HZ.out with ⟨rfl, hq⟩ | ⟨k, hk, rfl, hq, _⟩
  ·have : (List.range n).any q = false := by
    rw [List.any_eq_false]
    intro i hi
    rw [hq i (by simpa using hi)]; simp
   rw [this]; simp
  have : (List.range n).any q = true := List.any_eq_true.2 ⟨k, by simpa using hk, hq⟩
  rw [this]; simp) : P := h
theorem has_any (h : Nat) (bx : Nat) (q : Nat → Bool) (a : Option Addr) (n cp : Nat) (raw : List Rw) (w : World) (hn : n ≤ 1000000) (hr : RdR w a n cp raw) (he : ∀ args w, (callFunc h args).run Tryz.prog w = .ok (.enter h args) w)
  (hc : ∀ w' i x, Gr w w' → raw[i]? = some x → Calls Tryz.prog h #[.agg #[.slice x.a x.n x.c, .map (some x.y)], .pointer (some ⟨bx, 0, none⟩)] w' (RetB (q i) w')) :
  Calls Tryz.prog 176 #[.slice a n cp, .func (.func h) #[] #[.pointer (some ⟨bx, 0, none⟩)]] w (RetB ((List.range n).any q) w) := by have zS := trivial; exact scrT7s_has_any
def RowG (w : World) (g : Nat) (raw : List Rw) : Prop := ∀ i x, raw[i]? = some x → w.cell? ⟨g, i * 2, none⟩ = some (.slice x.a x.n x.c) ∧ w.cell? ⟨g, i * 2 + 1, none⟩ = some (.map (some x.y)) ∧ w.frozen? ⟨g, i * 2, none⟩ = false ∧ w.frozen? ⟨g, i * 2 + 1, none⟩ = false
theorem RowG.gr {w w' : World} {g : Nat} {M : List Rw} (h : RowG w g M) (k : Gr w w') : RowG w' g M := fun i x hi => by
 obtain ⟨h1, h2, h3, h4⟩ := h i x hi
 exact ⟨k.cell h1, k.cell h2, (Below.frozen k (World.block_lt_of_cell? w _ h1)).trans h3, (Below.frozen k (World.block_lt_of_cell? w _ h2)).trans h4⟩
theorem set_get {M : List Rw} {i j : Nat} {x y : Rw} (h : (M.set i x)[j]? = some y) : (i = j ∧ y = x) ∨ (i ≠ j ∧ M[j]? = some y) := by
 by_cases e : i = j
 ·subst e
  rw [List.getElem?_set_self'] at h
  cases hm : M[i]? with
  | none => rw [hm] at h; cases h
  | some z => rw [hm] at h; simp at h; exact .inl ⟨rfl, h.symm⟩
 rw [List.getElem?_set_ne e] at h
 exact .inr ⟨e, h⟩
theorem scrT8s_RowGset {P : Prop} (h : P := by
  intro j y hj
  obtain ⟨k1, k2, _, _⟩ := h i _ (List.getElem?_eq_getElem hi)
  rcases set_get hj with ⟨rfl, rfl⟩ | ⟨e, hj⟩
  ·obtain ⟨_, _, h3, h4⟩ := h i _ (List.getElem?_eq_getElem hi)
   exact ⟨cell_by (cell_near k1 _) (by omega) _, cell_near (cell_by k2 (by omega) _) _, by simpa using h3, by simpa using h4⟩
  obtain ⟨h1, h2, h3, h4⟩ := h j y hj
  exact ⟨cell_by (cell_by h1 (by omega) _) (by omega) _, cell_by (cell_by h2 (by omega) _) (by omega) _, by simpa using h3, by simpa using h4⟩) : P := h
theorem RowG.set {w : World} {g : Nat} {M : List Rw} (h : RowG w g M) {i : Nat} (hi : i < M.length) (x : Rw) :
  RowG ((w.setCell ⟨g, i * 2, none⟩ (.slice x.a x.n x.c)).setCell ⟨g, i * 2 + 1, none⟩ (.map (some x.y))) g (M.set i x) := by exact scrT8s_RowGset
theorem scrT8s_RowGrd {P : Prop} (h : P := by
  refine ⟨rfl, hc, hm, (fun k => by cases k), .inr ⟨g, 0, rfl, fun i x hi => ?_⟩⟩
  have hlt : i < F.length := by
   rcases Nat.lt_or_ge i F.length with q | q
   ·exact q
   rw [List.getElem?_eq_none q] at hi; cases hi
  have e1 : raw[i]? = some x := by
   rw [← hi]
   conv => rhs; rw [← ht]
   rw [List.getElem?_take, if_pos hlt]
  obtain ⟨h1, h2, _, _⟩ := h i x e1
  rw [Nat.zero_add]
  exact ⟨h1, h2⟩) : P := h
theorem RowG.rd {w : World} {g c : Nat} {raw F : List Rw} (h : RowG w g raw) (hc : F.length ≤ c) (hm : c ≤ 9223372036854775807) (ht : raw.take F.length = F) : RdR w (some ⟨g, 0, none⟩) F.length c F := by exact scrT8s_RowGrd
def kpI (q : Nat → Bool) (raw : List Rw) (j : Nat) : List Rw := ((List.range j).filter fun i => !q i).map (rwAt raw)
theorem kpI_skip {q : Nat → Bool} {raw : List Rw} {j : Nat} (h : q j = true) : kpI q raw (j + 1) = kpI q raw j := by
 unfold kpI
 rw [List.range_succ, List.filter_append]
 simp [h]
theorem kpI_keep {q : Nat → Bool} {raw : List Rw} {j : Nat} (h : q j = false) : kpI q raw (j + 1) = kpI q raw j ++ [rwAt raw j] := by
 unfold kpI
 rw [List.range_succ, List.filter_append]
 simp [h]
theorem kpI_all {q : Nat → Bool} {raw : List Rw} {j : Nat} (hj : j ≤ raw.length) (h : ∀ i, i < j → q i = false) : kpI q raw j = raw.take j := by
 induction j with
 | zero => rfl
 | succ j ih =>
  rw [kpI_keep (h j (by omega)), ih (by omega) (fun i hi => h i (by omega)), List.take_add_one, rw_get (by omega)]
  rfl
theorem Wr.setCells {b : Nat} {w : World} (vs : List Value) : ∀ (o : Nat) {w1 : World}, Wr b w w1 → Wr b w (w1.setCells b o vs) := by
 induction vs with
 | nil => intro o w1 h; exact h
 | cons v r ih => intro o w1 h; exact ih (o + 1) (h.set o v)
theorem scrT8s_clear_rows {P : Prop} (h : P := by
  first | (have z := zS; clear z; have hv : (zeroValue 121).run Tryz.prog w = .ok (.agg #[.slice none 0 0, .map none]) w := by kernel_rfl) | (have hv : (zeroValue 98).run Tryz.prog w = .ok (.agg #[.slice none 0 0, .int .i64 0]) w := by kernel_rfl)
  first | (have z := zS; clear z; obtain ⟨vs, hvs⟩ : ∃ vs, (Builtin.zeroCells (Value.agg #[.slice none 0 0, .map none]).cells n).toList = vs := ⟨_, rfl⟩) | (obtain ⟨vs, hvs⟩ : ∃ vs, (Builtin.zeroCells (Value.agg #[.slice none 0 0, .int .i64 0]).cells n).toList = vs := ⟨_, rfl⟩)
  first | (have z := zS; clear z; have hz : (Value.agg #[.slice none 0 0, .map none]).cells = #[.slice none 0 0, .map none] := rfl) | (have hz : (Value.agg #[.slice none 0 0, .int .i64 0]).cells = #[.slice none 0 0, .int .i64 0] := rfl)
  have hl : vs.length = n * 2 := by rw [← hvs, hz]; simp [Builtin.zeroCells]
  have h1 : ∀ v ∈ vs, v.oneCell' = true := by
   intro v hv
   rw [← hvs, hz] at hv
   simp only [Builtin.zeroCells, Array.toList_map, List.mem_map] at hv
   obtain ⟨i, _, rfl⟩ := hv
   first | (have z := zS; clear z; show (#[Value.slice none 0 0, .map none][i % 2]!).oneCell' = true) | (show (#[Value.slice none 0 0, .int .i64 0][i % 2]!).oneCell' = true)
   rcases Nat.mod_two_eq_zero_or_one i with h | h <;> rw [h] <;> rfl
  have hst := run_storeCells_cells (P := Tryz.prog) b o vs 0 w (by simpa [hl] using hc) (by simpa [hl] using hf) h1
  simp only [Nat.add_zero] at hst
  obtain ⟨m, rfl⟩ : ∃ m, n = m + 1 := ⟨n - 1, by omega⟩
  first | (have z := zS; clear z; exact ⟨vs, fun ty => by simp [Builtin.clear_, run_underlying Tryz.underlying109, hv, hvs, hst]⟩) | (exact ⟨vs, fun ty => by simp [Builtin.clear_, run_underlying Tryz.underlying65, hv, hvs, hst]⟩)) : P := h
theorem clear_rows (w : World) (b o n c : Nat) (hn : 0 < n) (hc : ∀ j, j < n * 2 → (w.cell? ⟨b, o + j, none⟩).isSome = true) (hf : ∀ j, j < n * 2 → w.frozen? ⟨b, o + j, none⟩ = false) :
  ∃ vs : List Value, ∀ ty, (Builtin.clear_ #[109] ty #[.slice (some ⟨b, o, none⟩) n c]).run Tryz.prog w = .ok (.tuple #[]) (w.setCells b o vs) := by have zS := trivial; exact scrT8s_clear_rows
theorem set_takeR {M : List Rw} {i : Nat} (h : i < M.length) (x : Rw) : (M.set i x).take (i + 1) = M.take i ++ [x] := by
 rw [List.take_add_one, List.take_set_of_le (Nat.le_refl i), List.getElem?_set_self h]
 rfl
theorem set_dropR {M L : List Rw} {i j : Nat} (h : M.drop j = L.drop j) (hi : i < j) (x : Rw) : (M.set i x).drop (j + 1) = L.drop (j + 1) := by
 rw [List.drop_set_of_lt (by omega)]
 have := congrArg (List.drop 1) h
 rwa [List.drop_drop, List.drop_drop] at this
theorem drop_moreR {M L : List Rw} {j : Nat} (h : M.drop j = L.drop j) : M.drop (j + 1) = L.drop (j + 1) := by
 have := congrArg (List.drop 1) h
 rwa [List.drop_drop, List.drop_drop] at this
theorem drop_getR {M L : List Rw} {j : Nat} (h : M.drop j = L.drop j) (hj : j < L.length) : M[j]? = some (rwAt L j) := by
 have := congrArg (fun A : List Rw => A[0]?) h
 simp only [List.getElem?_drop, Nat.add_zero] at this
 rw [this, rw_get hj]
def RetDel (g cp : Nat) (F : List Rw) (w : World) (e : Ending) (w' : World) : Prop := e = .returned (.slice (some ⟨g, 0, none⟩) F.length cp) ∧ Wr g w w' ∧ RdR w' (some ⟨g, 0, none⟩) F.length cp F
theorem scrT8s_delete_any {P : Prop} (h : P := by
  have CI := Lh (index_any h bx q (some ⟨g, 0, none⟩) raw.length cp raw w (by omega) (hP.rd (F := raw) hcp hcm (by rw [List.take_length])) he (fun w' i x k hx => hc w' (Wr.of_gr k) i x hx))
  have HP := Lh hP
  have HH := Lh hc
  have hcf := he
  have HC := Lh (And.intro hn (And.intro hcp hcm))
  clear hP hc hn hcp hcm he
  first | (have z := zS; clear z; go_enter Tryz.func174, Tryz.ntmps174) | (go_enter Tryz.func135, Tryz.ntmps135)
  go_upto_region 2 with ((first | go_at_call 170 | go_at_call 204); (with_reducible refine CI.out.mono ?_); rintro e w1 ⟨⟨z, rfl, hz⟩, g1⟩; have HZ := Lh hz; have G1 := Lh g1; clear hz g1 CI)
  rcases HZ.out with ⟨rfl, ha⟩ | ⟨k, hk, rfl, hd, hbf⟩
  ·have HA := Lh ha
   clear ha HZ
   go_wp2_with fail
   go_ret
   have e : kpI q raw raw.length = raw := by rw [kpI_all (Nat.le_refl _) HA.out, List.take_length]
   rw [e]
   exact ⟨rfl, Wr.of_gr G1.out, (HP.out.gr G1.out).rd HC.out.2.1 HC.out.2.2 List.take_length⟩
  have HK := Lh hk
  have HD := Lh hd
  have HF := Lh (show kpI q raw k = raw.take k from kpI_all (by omega) hbf)
  clear hd hbf HZ
  have i0 : (decide ((k : Int) = -1)) = false := by simp
  have i1 : IntKind.i64.wrap ((k : Int) + 1) = ((k + 1 : Nat) : Int) := by rw [IntWalk.i64_in _ (by have := HC.out; omega)]; omega
  clear hk
  go_wp2_with fail
  go_loopw [5, 6] (fun s5 s6 wr => ∃ (i j : Nat) (M : List Rw), s5 = .int .i64 i ∧ s6 = .int .i64 j ∧ Hid (i < j ∧ j ≤ raw.length) ∧ Hid (M.length = raw.length) ∧ Hid (M.take i = kpI q raw j) ∧ Hid (M.drop j = raw.drop j) ∧ Hid (RowG wr g M) ∧ Hid (Wr g w wr)) (fun _ s6 _ => raw.length - (intOf s6).toNat)
  case atStart => exact ⟨k, k + 1, raw, rfl, by go_num, Lh ⟨by omega, HK.out⟩, Lh rfl, Lh (by rw [kpI_skip HD.out, HF.out]), Lh rfl, Lh (HP.out.gr G1.out), Lh (Wr.of_gr G1.out)⟩
  case round =>
   obtain ⟨i, j, M, rfl, rfl, Hij, HM, HT, HDr, HR, HW⟩ := hrel
   clear i0 i1
   by_cases hlt : j < raw.length
   ·have i1 : (j : Int) < (raw.length : Int) := by omega
    have hMj := drop_getR HDr.out hlt
    obtain ⟨cj0, cj1, _, _⟩ := HR.out j _ hMj
    obtain ⟨mi, hMi⟩ : ∃ mi, M[i]? = some mi := ⟨_, List.getElem?_eq_getElem (show i < M.length by rw [HM.out]; have := Hij.out; omega)⟩
    obtain ⟨ci0, ci1, fi0, fi1⟩ := HR.out i _ hMi
    obtain ⟨d, hd⟩ : ∃ d, d = q j := ⟨_, rfl⟩
    have HDj := Lh hd
    have HTk := Lh (fun h => kpI_keep (q := q) (raw := raw) (j := j) h)
    have HTs := Lh (fun h => kpI_skip (q := q) (raw := raw) (j := j) h)
    have HRs := Lh (fun W (k : RowG W g M) => k.set (i := i) (by rw [HM.out]; have := Hij.out; omega) (rwAt raw j))
    have HRi := Lh (fun W (k : RowG W g M) => k i _ hMi)
    have HCj := Lh (fun W (k : Wr g w W) => HH.out W k j _ (rw_get hlt))
    have i2 : (i : Int) < (raw.length : Int) := by have := Hij.out; omega
    have HLj := Lh hlt
    have w1 : IntKind.i64.wrap ((i : Int) + 1) = ((i + 1 : Nat) : Int) := by rw [IntWalk.i64_in _ (by have := HC.out; omega)]; omega
    have w2 : IntKind.i64.wrap ((j : Int) + 1) = ((j + 1 : Nat) : Int) := by rw [IntWalk.i64_in _ (by have := HC.out; omega)]; omega
    clear hlt hMj hMi hd
    generalize rwAt raw j = x at *
    obtain ⟨xa, xn, xc, xy⟩ := x
    simp only at cj0 cj1 HRs HCj
    first | (have z := zS; clear z; obtain ⟨z0, z1⟩ := boxr wr (.slice xa xn xc) (.map (some xy)) 121) | (obtain ⟨z0, z1⟩ := boxr wr (.slice xa xn xc) (.int .i64 xy) 98)
    first | (have z := zS; clear z; have gA : Gr wr (wr.alloc (.cells #[.slice xa xn xc, .map (some xy)] 121)) := (Gr.refl wr).alloc _) | (have gA : Gr wr (wr.alloc (.cells #[.slice xa xn xc, .int .i64 xy] 98)) := (Gr.refl wr).alloc _)
    first | (have z := zS; clear z; have Cc := Lh (HCj.out (wr.alloc (.cells #[.slice xa xn xc, .map (some xy)] 121)) (HW.out.trans (Wr.of_gr gA)))) | (have Cc := Lh (HCj.out (wr.alloc (.cells #[.slice xa xn xc, .int .i64 xy] 98)) (HW.out.trans (Wr.of_gr gA))))
    rw [← HDj.out] at Cc
    have HZ0 := Lh (And.intro z0 z1)
    have HGA := Lh gA
    clear gA HCj
    cases d with
    | true =>
     have HT2 := Lh ((HTs.out HDj.out.symm).symm ▸ HT.out : M.take i = kpI q raw (j + 1))
     clear z0 z1 ci0 ci1 fi0 fi1
     go_wp2_with fail
     refine Cc.out.mono ?_
     rintro e w3 ⟨rfl, g3⟩
     have G3 := Lh (HGA.out.trans g3)
     clear g3
     go_wp2_with fail
     go_roundw
     case rel => (repeat apply Exists.intro); exact ⟨⟨i, j + 1, M, rfl, by go_num, Lh (by have := Hij.out; have := HLj.out; omega), HM, HT2, Lh (drop_moreR HDr.out), Lh (HR.out.gr G3.out), Lh (HW.out.trans (Wr.of_gr G3.out))⟩, rfl⟩
     case measure => have := HLj.out; simp [intOf]; omega
    | false =>
     have HT2 := Lh (show (M.set i ⟨xa, xn, xc, xy⟩).take (i + 1) = kpI q raw (j + 1) by
      have e := HTk.out HDj.out.symm
      rw [e, set_takeR (by rw [HM.out]; have := Hij.out; have := HLj.out; omega), HT.out])
     clear z0 z1 ci0 ci1 fi0 fi1
     go_wp2_with fail
     refine Cc.out.mono ?_
     rintro e w3 ⟨rfl, g3⟩
     have G3 := Lh (HGA.out.trans g3)
     obtain ⟨ci0, ci1, fi0, fi1⟩ := HRi.out _ (HR.out.gr G3.out)
     have z0 := g3.cell HZ0.out.1
     have z1 := g3.cell HZ0.out.2
     have HPs := Lh (HRs.out w3 (HR.out.gr G3.out))
     first | (have z := zS; clear z; have HWs := Lh (((HW.out.trans (Wr.of_gr G3.out)).set (i * 2) (.slice xa xn xc)).set (i * 2 + 1) (.map (some xy)))) | (have HWs := Lh (((HW.out.trans (Wr.of_gr G3.out)).set (i * 2) (.slice xa xn xc)).set (i * 2 + 1) (.int .i64 xy)))
     have ci1' := cell_by (k := i * 2) ci1 (by omega) (.slice xa xn xc)
     clear g3 HRs HGA HZ0 HRi
     go_wp2_with fail
     go_roundw
     case rel => (repeat apply Exists.intro); exact ⟨⟨i + 1, j + 1, M.set i ⟨xa, xn, xc, xy⟩, by go_num, by go_num, Lh (by have := Hij.out; have := HLj.out; omega), Lh (by rw [List.length_set]; exact HM.out), HT2, Lh (set_dropR HDr.out Hij.out.1 _), HPs, HWs⟩, rfl⟩
     case measure => have := HLj.out; simp [intOf]; omega
   obtain rfl : j = raw.length := by have := Hij.out; omega
   have i1 : ¬ (raw.length : Int) < (raw.length : Int) := by omega
   have HL2 := Lh (show (kpI q raw raw.length).length = i by rw [← HT.out, List.length_take, HM.out]; have := Hij.out; omega)
   obtain ⟨vs, hvs⟩ := clear_rows wr g (i * 2) (raw.length - i) (cp - i) (by have := Hij.out; omega) (fun q hq => by
    have hi : i + q / 2 < M.length := by rw [HM.out]; omega
    have := HR.out (i + q / 2) _ (List.getElem?_eq_getElem hi)
    rcases Nat.mod_two_eq_zero_or_one q with h | h
    ·rw [show i * 2 + q = (i + q / 2) * 2 by omega, this.1]; rfl
    ·rw [show i * 2 + q = (i + q / 2) * 2 + 1 by omega, this.2.1]; rfl) (fun q hq => by
    have hi : i + q / 2 < M.length := by rw [HM.out]; omega
    have := HR.out (i + q / 2) _ (List.getElem?_eq_getElem hi)
    rcases Nat.mod_two_eq_zero_or_one q with h | h
    ·rw [show i * 2 + q = (i + q / 2) * 2 by omega]; exact this.2.2.1
    rw [show i * 2 + q = (i + q / 2) * 2 + 1 by omega]; exact this.2.2.2)
   have i2 : (i : Int) ≤ (raw.length : Int) := by have := Hij.out; omega
   have i3 : (i : Int) ≤ (cp : Int) := by have := Hij.out; have := HC.out; omega
   have i4 : (raw.length : Int) ≤ (cp : Int) := by have := HC.out; omega
   have i5 : ¬ cp = i := by have := Hij.out; have := HC.out; omega
   have HRd := Lh (show RdR (wr.setCells g (i * 2) vs) (some ⟨g, 0, none⟩) (kpI q raw raw.length).length cp (kpI q raw raw.length) by
    have hk := HR.out.rd (F := kpI q raw raw.length) (c := cp) (by rw [HL2.out]; have := Hij.out; have := HC.out; omega) HC.out.2.2 (by rw [HL2.out]; exact HT.out)
    obtain ⟨k1, k2, k3, k4, k5⟩ := hk
    refine ⟨k1, k2, k3, k4, ?_⟩
    rcases k5 with k5 | ⟨b, o, e, hh⟩
    ·exact .inl k5
    cases e
    refine .inr ⟨g, 0, rfl, fun p x hp => ?_⟩
    obtain ⟨h1, h2⟩ := hh p x hp
    have hpl : p < i := by
     rcases Nat.lt_or_ge p i with r | r
     ·exact r
     rw [List.getElem?_eq_none (by rw [HL2.out]; exact r)] at hp; cases hp
    rw [World.cell?_setCells_out, World.cell?_setCells_out]
    ·exact ⟨h1, h2⟩
    ·intro _ _; left; show 0 + p * 2 + 1 < i * 2; omega
    intro _ _; left; show 0 + p * 2 < i * 2; omega)
   have HWs := Lh (Wr.setCells vs (i * 2) HW.out)
   go_wp2_with fail
   go_ret
   exact ⟨by rw [HL2.out]; rfl, HWs.out, HRd.out⟩) : P := h
theorem delete_any (h bx : Nat) (q : Nat → Bool) (g cp : Nat) (raw : List Rw) (w : World) (hn : raw.length ≤ 900000) (hcp : raw.length ≤ cp) (hcm : cp ≤ 9223372036854775807) (hP : RowG w g raw) (he : ∀ args w, (callFunc h args).run Tryz.prog w = .ok (.enter h args) w)
  (hc : ∀ w', Wr g w w' → ∀ i x, raw[i]? = some x → Calls Tryz.prog h #[.agg #[.slice x.a x.n x.c, .map (some x.y)], .pointer (some ⟨bx, 0, none⟩)] w' (RetB (q i) w')) :
  Calls Tryz.prog 174 #[.slice (some ⟨g, 0, none⟩) raw.length cp, .func (.func h) #[] #[.pointer (some ⟨bx, 0, none⟩)]] w (RetDel g cp (kpI q raw raw.length) w) := by have zS := trivial; exact scrT8s_delete_any
theorem kpI_dat {w0 w : World} {raw : List Rw} {L : Tbl SL} (h : Dat w0 w raw L) (q : SL → Bool) : ∀ j, j ≤ L.length → Dat w0 w (kpI (fun i => !q (vlAt L i)) raw j) ((L.take j).filter fun x => q x.2)
 | 0, _ => Dat.nil w0 w
 | j + 1, hj => by
  have ih := kpI_dat h q j (by omega)
  rw [List.take_add_one, ky_get (show j < L.length by omega), List.filter_append]
  have hr := h.2 j _ _ (rw_get (by rw [h.1]; omega)) (ky_get (show j < L.length by omega))
  cases hq : q (vlAt L j) with
  | true =>
   rw [kpI_keep (by rw [hq]; rfl)]
   have e : (List.filter (fun x => q x.2) (some (kyAt L j, vlAt L j)).toList) = [(kyAt L j, vlAt L j)] := by simp [hq]
   rw [e]
   exact ih.snoc hr.1 hr.2.1 hr.2.2
  | false =>
   rw [kpI_skip (by rw [hq]; rfl)]
   have e : (List.filter (fun x => q x.2) (some (kyAt L j, vlAt L j)).toList) = [] := by simp [hq]
   rw [e, List.append_nil]
   exact ih
def RetTb (w0 : World) (v : Value) (L : Tbl SL) (w : World) (e : Ending) (w' : World) : Prop := ∃ a n c, e = .returned (.slice a n c) ∧ RdT w0 w' a n c L ∧ Gr w0 w' ∧ Keep v w w'
theorem scrT8s_deleteT {P : Prop} (h : P := by
  first | (have z := zS; clear z; have hce : ∀ args w, (callFunc 175 args).run Tryz.prog w = .ok (.enter 175 args) w := fun args w => by kernel_rfl) | (have hce : ∀ args w, (callFunc 136 args).run Tryz.prog w = .ok (.enter 136 args) w := fun args w => by kernel_rfl)
  have hgood : ∀ j, j < L.length → G (vlAt L j) := fun j hj => hG _ (List.mem_of_getElem? (ky_get hj))
  rcases hO.blk with ⟨rfl, rfl⟩ | ⟨g, c, cur, rfl, h1, h2, h3, h4, h5, h6⟩
  ·have hL : L = [] := List.length_eq_zero_iff.1 (by rw [← hD.1]; rfl)
   subst hL
   first | (have z := zS; clear z; have CI := Lh (show Calls Tryz.prog 204 #[.slice none 0 0, .func (.func 175) #[] #[.pointer (some ⟨bx, 0, none⟩)]] w _ from index_any 175 bx (fun _ => false) none 0 0 [] w (by simp) ⟨rfl, Nat.le_refl _, by omega, fun _ => rfl, .inl rfl⟩ hce (fun w' i x _ hx => by simp at hx))) | (have CI := Lh (show Calls Tryz.prog 170 #[.slice none 0 0, .func (.func 136) #[] #[.pointer (some ⟨bx, 0, none⟩)]] w _ from index_any 136 bx (fun _ => false) none 0 0 [] w (by simp) ⟨rfl, Nat.le_refl _, by omega, fun _ => rfl, .inl rfl⟩ hce (fun w' i x _ hx => by simp at hx)))
   have HG := Lh hO.2
   clear hO hD hb hF hG hgood hne
   first | (have z := zS; clear z; go_enter Tryz.func174, Tryz.ntmps174) | (go_enter Tryz.func135, Tryz.ntmps135)
   go_upto_region 2 with ((first | go_at_call 170 | go_at_call 204); (with_reducible refine CI.out.mono ?_); rintro e w1 ⟨⟨z, rfl, hz⟩, g1⟩; have HZ := Lh hz; have G1 := Lh g1; clear hz g1 CI)
   rcases HZ.out with ⟨rfl, ha⟩ | ⟨k, hk, _⟩
   ·clear ha HZ
    go_wp2_with fail
    go_ret
    exact ⟨none, 0, 0, rfl, ⟨[], ⟨rfl, Nat.le_refl _, by omega, fun _ => rfl, .inl rfl⟩, Dat.nil _ _⟩, HG.out.trans G1.out, Keep.of_gr G1.out⟩
   exact absurd hk (by simp)
  have hl : raw.length = L.length := hD.1
  first | (have z := zS; clear z; refine (delete_any 175 bx (fun i => !R.stays (vlAt L i)) g c raw w (by omega) h1 h2 (fun i x hx => h6 i x hx) hce (fun w' k i x hx => ?_)).mono ?_) | (refine (delete_any 136 bx (fun i => !R.stays (vlAt L i)) g c raw w (by omega) h1 h2 (fun i x hx => h6 i x hx) hce (fun w' k i x hx => ?_)).mono ?_)
  ·have hi : i < L.length := by
    rw [← hl]
    rcases Nat.lt_or_ge i raw.length with r | r
    ·exact r
    rw [List.getElem?_eq_none r] at hx; cases hx
   have hD' := hD.wr h5 (by decide) h3 k
   obtain ⟨_, _, hr⟩ := hD'.2 i x _ hx (ky_get hi)
   exact goes_any F bx x (R.stays (vlAt L i)) w' hF.es (hb.wr k (fun e => hne (by rw [e]; rfl))) (fun w2 k2 => hF.stays w2 x.y _ ((k.gr hO.2 h3).trans k2) (hr.gr k2) (hgood i hi))
  rintro e w' ⟨rfl, k1, k2⟩
  have hD' := hD.wr h5 (by decide) h3 k1
  have := kpI_dat hD' R.stays L.length (Nat.le_refl _)
  rw [List.take_length, ← hl] at this
  exact ⟨_, _, _, rfl, ⟨_, k2, this⟩, k1.gr hO.2 h3, Keep.of_wr k1⟩) : P := h
theorem deleteT (F : RF) (R : Rg SL) (G : SL → Prop) (μ : SL → Nat) (B : Nat) (bx : Nat) (w0 w : World) (v : Value) (raw : List Rw) (L : Tbl SL) (hO : OwnR w0 w v raw) (hD : Dat w0 w raw L) (hn : L.length ≤ 1000) (hb : BoxF w bx F) (hne : v.ownBlock ≠ some bx) (hF : RingOk F R G μ B w0) (hG : ∀ x ∈ L, G x.2) :
  Calls Tryz.prog 174 #[v, .func (.func 175) #[] #[.pointer (some ⟨bx, 0, none⟩)]] w (RetTb w0 v (L.filter fun x => R.stays x.2) w) := by have zS := trivial; exact scrT8s_deleteT
end Go.Proofs.YtehdemcfeoiecaaGreatDoor.RS
