import Derived.Test.YtehdemcfeoiecaaGreatDoorN1
namespace Go.Proofs.YtehdemcfeoiecaaGreatDoor
open Go.RowKit Go.Firn Go.Firn.Tb
def RetC3 (LT : Tbl Int) (eC : Int) (w : World) (e : Ending) (w' : World) : Prop := ∃ va vn vc na nn nc, e = .returned (.tuple #[.slice va vn vc, .slice na nn nc, .int .i64 eC]) ∧ RdLs w' va vn vc (LT.map (·.1)) ∧ Rd3 w' na nn nc (LT.map (·.2)) ∧ Gr w w'
structure NumS (l : Nat → Int) (T : Tbl SL) (LT : Tbl Int) (eC : Int) (kf : Nat → Nat) : Prop where
 e : eC = 0 ∨ eC = 4
 k0 : kf 0 = 0
 kn : kf T.length = LT.length
 le : LT.length ≤ 60
 st : ∀ (i : Nat) (r : List Int × SL), T[i]? = some r → ((eC = 4 ∨ valQ l r.2 = 0) ∧ kf (i + 1) = kf i) ∨ (eC = 0 ∧ (valQ l r.2 = 0 → False) ∧ kf (i + 1) = kf i + 1 ∧ LT[kf i]? = some (r.1, valQ l r.2))
theorem counts_three {a : Option Addr} {n c : Nat} {Ts : List (Int × Tbl SL)} {q : ByteArray} {a' : Option Addr} {m c' : Nat} {l : Nat → Int} {T : Tbl SL} {Wd : Int} (hm : m ≤ 9223372036854775807) (hz : SzWs Ts) (hq : q.size ≤ 9223372036854775807) (hl : nmB l m 10 = true) (hr : resQ RgS (fun L => L) true Ts q.data.toList = .ok (T, Wd)) :
 ∃ LT eC kf, NumS l T LT eC kf ∧ ∀ W, RdWs W a n c Ts → RdI W a' m l → Pow10 W → Errs W → Calls Tryz.prog 12 #[.slice a n c, .string q, .slice a' m c'] W (RetC3 LT eC W) := by
 have h8 := (nmB_at hl).2
 have hti := resQ_lenS lawS (fun L h0 => GS.of h0) hr
 rcases num_or (redC h8) hr with h | h
 ·refine ⟨[], 4, fun _ => 0, ⟨.inr rfl, rfl, rfl, Nat.zero_le _, fun i r hr => .inl ⟨.inl rfl, rfl⟩⟩, fun W h1 h2 h3 h4 => ?_⟩
  have := Counts_any a n c Ts q a' m c' l W h1 hz hq hm h2 h3 h4
  rw [hl, h] at this
  refine this.mono ?_
  rintro e w' ⟨rfl, g⟩
  exact ⟨none, 0, 0, none, 0, 0, rfl, ⟨rfl, Nat.le_refl _, Nat.zero_le _, fun _ => rfl, .inl rfl⟩, ⟨rfl, Nat.le_refl _, Nat.zero_le _, fun _ => rfl, .inl rfl⟩, g⟩
 ·have htc := resQ_lenS lawC (fun L h0 => φC_GC h8 h0) h
  refine ⟨red RgC (φC l) T, 0, kN l T, ⟨.inl rfl, rfl, kN_end, (okT_le htc.ok).1, fun i r hi => ?_⟩, fun W h1 h2 h3 h4 => ?_⟩
  ·have hp := valQ_pos h8 (hti.gd r (List.mem_of_getElem? hi)).1
   obtain ⟨k1, k2⟩ := kN_next (l := l) hi
   by_cases h0 : 0 < φC l r.2
   ·obtain ⟨k3, k4⟩ := k2 h0
    have hf := (okT_le htc.ok).2 _ (List.mem_of_getElem? k4)
    have hf : φC l r.2 ≤ MX := of_decide_eq_true hf
    have e1 : φC l r.2 = valQ l r.2 := by unfold φC at hf ⊢; unfold MX at *; omega
    rw [e1] at k4 h0
    exact .inr ⟨rfl, fun k => by omega, k3, k4⟩
   ·have e1 : valQ l r.2 = 0 := by unfold φC at h0; unfold MX at *; omega
    exact .inl ⟨.inr e1, k1 (.inr h0)⟩
  ·have := Counts_any a n c Ts q a' m c' l W h1 hz hq hm h2 h3 h4
   rw [hl, h] at this
   exact this.mono fun e w' ⟨va, vn, vc, na, nn, nc, k1, k2, k3, k4⟩ => ⟨va, vn, vc, na, nn, nc, k1, k2, k3, k4⟩
theorem costs_three {a : Option Addr} {n c : Nat} {Ts : List (Int × Tbl SL)} {q : ByteArray} {a' : Option Addr} {m c' : Nat} {l : Nat → Int} {T : Tbl SL} {Wd : Int} (hm : m ≤ 9223372036854775807) (hz : SzWs Ts) (hq : q.size ≤ 9223372036854775807) (hl : nmB l m 1000 = true) (hr : resQ RgS (fun L => L) true Ts q.data.toList = .ok (T, Wd)) :
 ∀ W, RdWs W a n c Ts → RdI W a' m l → Pow10 W → Errs W → Calls Tryz.prog 16 #[.slice a n c, .string q, .slice a' m c'] W (RetC3 (mapT (cosQ l) T) 0 W) := fun W h1 h2 h3 h4 => by
 have := Costs_any a n c Ts q a' m c' l W h1 hz hq hm h2 h3 h4
 rw [hl, costs_is (nmB_at hl).2 hr] at this
 exact this.mono fun e w' ⟨va, vn, vc, na, nn, nc, k1, k2, k3, k4⟩ => ⟨va, vn, vc, na, nn, nc, k1, k2, k3, k4⟩
theorem size_row {L : SL} (h : vL L = true) : ∀ i, i < L.length → (sx L i).size ≤ 9223372036854775807 := fun i hi => by
 have := (vS_at (f := sx L) (g := sy L) (n := L.length) h).2 i hi
 have := (isTk_at this.1).1
 omega
end Go.Proofs.YtehdemcfeoiecaaGreatDoor
