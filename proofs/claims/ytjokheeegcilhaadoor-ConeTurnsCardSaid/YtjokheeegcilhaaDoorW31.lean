/- Contracts of chapter 2: the threads. -/
import Derived.Test.YtjokheeegcilhaaDoorW30
import Derived.Test.YtjokheeegcilhaaDoorP14
namespace Go.Proofs.YtjokheeegcilhaaDoor
open Go.RowKit Go.Firn

def lenV : Value → Nat
  | .slice _ n _ => n
  | _ => 0

/-- The threads of valid hits. -/
def RetTh (n : Nat) (P T : Nat → Int) (w : World) (e : Ending) (w' : World) : Prop :=
  ∃ a c nx pv, Kuhn n (bf P T) nx pv n ∧ e = .returned (.slice a (thr n nx pv n).length c) ∧ (thr n nx pv n).length ≤ c ∧ c ≤ maxLen ∧ RdT w' a (thr n nx pv n).length (tr nf (thr n nx pv n)) ∧ Gr w w'

set_option maxHeartbeats 2000000 in
set_option maxRecDepth 20000 in
theorem threads_any {n p b1 b2 : Nat} {P T : Nat → Int} (hp : 1 ≤ n) (hn : n ≤ 14) (w : World) (hT : Tab w) (O : OrdB w p b1 b2 n (pastM n P T) (futM n P T)) :
    Calls Tryd.prog 86 #[.pointer (some ⟨p, 0, none⟩)] w (RetTh n P T w) := by
  have HO := Lib.hid O
  have TT := Lib.hid hT
  have c0 := O.c0
  have P0 := Lib.hid (show p < w.heap.size ∧ b1 < w.heap.size ∧ b2 < w.heap.size ∧ 0 < w.heap.size from
    ⟨World.block_lt_of_cell? w _ O.c0, World.block_lt_of_cell? w _ (O.r1 0 hp).1, World.block_lt_of_cell? w _ (O.r2 0 hp).1, World.block_lt_of_cell? w _ (hT 0 (by omega))⟩)
  clear O hT
  go_enter Tryd.func86, Tryd.ntmps86
  go_wp2_with fail
  go_at_call 103
  refine (Repeat_any _ n _ hp hn (cell_new1 _ _ _)).mono ?_
  rintro e w1 ⟨bn, rfl, q1, q2, q3, q4⟩
  have Q1 := Lib.hid (show w.heap.size ≤ bn from Nat.le_trans ((Gr.refl w).alloc (.cells #[.int .i64 (-1)] 3)).size q1)
  have Q2 := Lib.hid q2
  have R1 := Lib.hid q3
  have G1 := Lib.hid (((Gr.refl w).alloc (.cells #[.int .i64 (-1)] 3)).trans q4)
  clear q1 q2 q3 q4 c0
  go_wp2_with fail
  go_at_call 103
  refine (Repeat_any _ n _ hp hn (cell_new1 _ _ _)).mono ?_
  rintro e w2 ⟨bp, rfl, q1, q2, q3, q4⟩
  have Q3 := Lib.hid (show w1.heap.size ≤ bp from Nat.le_trans ((Gr.refl w1).alloc (.cells #[.int .i64 (-1)] 3)).size q1)
  have G2 := Lib.hid (((Gr.refl w1).alloc (.cells #[.int .i64 (-1)] 3)).trans q4)
  have R2 := Lib.hid q3
  have R1' := Lib.hid (R1.out.gr G2.out)
  have NE := Lib.hid (show bn ≠ bp by have h1 := Q2.out; have h2 := Q3.out; omega)
  have WP := Lib.hid (show w.heap.size ≤ bp by have h1 := Q3.out; have h2 := G1.out.size; omega)
  have G3 := Lib.hid (G1.out.trans G2.out)
  clear q1 q2 q3 q4 R1
  go_wp2_with fail
  go_loopw [24] (fun s wr => ∃ i nx pv, i ≤ n ∧ s = .int .i64 (i : Nat) ∧ Hid (Kuhn n (bf P T) nx pv i) ∧ Hid (RowG wr bn n (zV nx)) ∧ Hid (RowG wr bp n (zV pv)) ∧ Hid (Gr w wr)) (fun s _ => n - (intOf s).toNat)
  case atStart => exact ⟨0, _, _, Nat.zero_le _, rfl, Kuhn.zero n _, R1', R2, G3⟩
  case round =>
    obtain ⟨i, nx, pv, hi, rfl, hK, hR1, hR2, hG⟩ := hrel
    by_cases hlt : i < n
    · have i1 : (i : Int) < (n : Int) := by omega
      have L1 := Lib.hid (World.block_lt_of_cell? wr _ (hR1.out 0 hp).1)
      have L2 := Lib.hid (World.block_lt_of_cell? wr _ (hR2.out 0 hp).1)
      have G4 := Lib.hid ((Gr.refl wr).alloc (.cells #[.int .u16 0] 76))
      have FF := Lib.hid (show Fol (wr.alloc (.cells #[.int .u16 0] 76)) bn bp wr.heap.size n nx pv 0 from
        ⟨hR1.out.gr G4.out, hR2.out.gr G4.out, ((Gr.refl (wr.alloc (.cells #[.int .u16 0] 76))).fresh' (b := wr.heap.size) (j := 0) (v := .int .u16 0) rfl rfl).1, ((Gr.refl (wr.alloc (.cells #[.int .u16 0] 76))).fresh' (b := wr.heap.size) (j := 0) (v := .int .u16 0) rfl rfl).2⟩)
      have XX := Lib.hid (show ¬X3 bn bp wr.heap.size p ∧ ¬X3 bn bp wr.heap.size b1 ∧ ¬X3 bn bp wr.heap.size b2 ∧ ¬X3 bn bp wr.heap.size 0 from by
        have h1 := P0.out; have h2 := Q1.out; have h3 := WP.out; have h4 := hG.out.size
        unfold X3
        omega)
      have C1 := Lib.hid (follow_any hn n n XX.out NE.out (by have := L1.out; simp at this; omega) (by have := L2.out; simp at this; omega) (n + 1) i 0 nx pv (wr.alloc (.cells #[.int .u16 0] 76)) (by omega) hlt (Nat.two_pow_pos n) hK.out.1 (.inl (hK.out.2.1 i hlt (Nat.le_refl _)))
        (HO.out.gr (hG.out.trans G4.out)) (TT.out.gr (hG.out.trans G4.out)) FF.out)
      go_wp2_with fail
      go_at_call 104
      (with_reducible refine C1.out.mono ?_)
      rintro e w3 ⟨gx, s', hs', h⟩
      obtain ⟨ok, nx', pv', rfl, hK', hR1', hR2'⟩ : ∃ ok nx' pv', e = .returned (.bool ok) ∧ Hid (Kuhn n (bf P T) nx' pv' (i + 1)) ∧ Hid (RowG w3 bn n (zV nx')) ∧ Hid (RowG w3 bp n (zV pv')) := by
        rcases h with ⟨rfl, nx', pv', A, F⟩ | ⟨rfl, N, F⟩
        · exact ⟨true, nx', pv', rfl, hK.out.aug hlt A, F.r1, F.r2⟩
        · exact ⟨false, nx, pv, rfl, hK.out.non (fun k => by simp) N, F.r1, F.r2⟩
      have G5 := Lib.hid (gx.gr (hG.out.trans G4.out) (fun k hk => by
        have h2 := Q1.out; have h3 := WP.out; have h4 := hG.out.size
        rcases hk with rfl | rfl | rfl <;> omega))
      clear gx h hs' C1 FF
      go_wp2_with fail
      go_roundw
      case rel => exact ⟨i + 1, nx', pv', hlt, by go_num, hK', hR1', hR2', G5⟩
      case measure => simp [intOf]; omega
    · obtain rfl : i = n := by omega
      obtain ⟨base, hbase⟩ : ∃ b, b = wr.heap.size := ⟨_, rfl⟩
      have BA := Lib.hid hbase
      clear hbase
      have M := Lib.hid hK.out.1
      have B1 := Lib.hid (show bn < base from by rw [BA.out]; exact World.block_lt_of_cell? wr _ (hR1.out 0 hp).1)
      have B2 := Lib.hid (show bp < base from by rw [BA.out]; exact World.block_lt_of_cell? wr _ (hR2.out 0 hp).1)
      have T0 := Lib.hid (show thr i nx pv 0 = [] from rfl)
      go_wp2_with fail
      go_loopw [8, 34] (fun v s wx => ∃ k : Nat, k ≤ i ∧ s = .int .i64 k ∧ OwnT w base nf wx v (thr i nx pv k) ∧ Hid (RowG wx bn i (zV nx)) ∧ Hid (RowG wx bp i (zV pv))) (fun _ s _ => i - (intOf s).toNat)
      case atStart => exact ⟨0, Nat.zero_le _, rfl, by rw [T0.out]; exact OwnT.nil' hG.out (by rw [BA.out]; exact hG.out.size) (Nat.le_of_eq BA.out) nf, hR1, hR2⟩
      case round =>
        clear hR1 hR2
        obtain ⟨k, hk, rfl, hown, hR1, hR2⟩ := hrel
        by_cases hl2 : k < i
        · have k1 : (k : Int) < (i : Int) := by omega
          have TS := Lib.hid (thr_succ i nx pv k)
          have KL := Lib.hid (show (thr i nx pv k).length < 1000000 by rw [thr_length]; have := cnt_le (fun x => decide (pv x < 0)) k; omega)
          obtain ⟨d1, d2⟩ := hR2.out k hl2
          rw [zV_cell] at d1
          by_cases hpv : pv k < 0
          · have hpv' : ¬ (0 : Int) ≤ pv k := by omega
            rw [if_pos hpv] at TS
            have PT := Lib.hid (path_pth M.out i k hl2 (later_le i T k))
            have PN := Lib.hid (fun j (hj : j < (pathF nx i k).length) => show (pathF nx i k).getD j 0 < i from PT.out.lt M.out hl2 _ (by rw [List.getD, List.getElem?_eq_getElem hj]; exact List.getElem_mem hj))
            have PL := Lib.hid (path_len nx i k)
            generalize pathF nx i k = L at TS PT PN PL
            clear hpv
            go_wp2_with fail
            go_loopw [10, 11] (fun vl vk wy => ∃ (j : Nat) (z : Int), j ≤ L.length ∧ vk = .int .i64 z ∧ OwnI wr 3 wy vl j (nf L) ∧ Hid ((j < L.length → z = (L.getD j 0 : Nat)) ∧ (j = L.length → z < 0))) (fun vl _ _ => L.length - lenV vl)
            case atStart => exact ⟨0, k, Nat.zero_le _, rfl, OwnI.nil wr 3 _, ⟨fun _ => by rw [PT.out.pos.2], fun h => by have := PT.out.pos.1; omega⟩⟩
            case round =>
              clear d1 d2
              obtain ⟨j, z, hj, rfl, hl, hz⟩ := hrel
              by_cases hl3 : j < L.length
              · obtain rfl := hz.out.1 hl3
                have hx := PN.out j hl3
                have ST := Lib.hid (PT.out.step hl3)
                have EF := Lib.hid (show nf L j = ((L.getD j 0 : Nat) : Int) from rfl)
                have JK := Lib.hid (show j < 1000000000 by have := PL.out; omega)
                generalize L.getD j 0 = x at hx ST EF
                have x0 : (0 : Int) ≤ (x : Int) := by omega
                have x1 : (x : Int) < (i : Int) := by omega
                have LV := Lib.hid (show lenV u10 = j from by obtain ⟨a, c, h, _⟩ := hl.rd; rw [h]; rfl)
                clear hz
                go_wp2_with (at_builtin; go_must (refine wpList_app_int rfl _ _ 23 3 rfl Tryd.underlying23 Tryd.info3 _ _ _ rfl (hl.alloc _) _ _ rfl (cell_new1 _ _ _) EF.out JK.out ?_); intro v1 w4 hown1 _; obtain ⟨n1, n2⟩ := (hR1.out.gr hown1.2) x hx; rw [zV_cell] at n1)
                go_roundw
                case rel => exact ⟨j + 1, nx x, hl3, rfl, hown1, ⟨ST.out.1, ST.out.2⟩⟩
                case measure =>
                  obtain ⟨a, c, h, _⟩ := hown1.rd
                  rw [h, LV.out]
                  show L.length - (j + 1) < _
                  omega
              · obtain rfl : j = L.length := by omega
                have z0 : ¬ (0 : Int) ≤ z := by have := hz.out.2 rfl; omega
                obtain ⟨al, cl, rfl, h1, h2, h3, h4⟩ := hl.rdF
                have hy := Lib.hid (show Holds base wr u8 nf (.slice al L.length cl) L from ⟨al, cl, rfl, h1, h2, h3, h4.imp id (fun ⟨b, o, q1, q2, q3⟩ => ⟨b, o, q1, q2, fun q => by have := hown.lt q.symm; omega, Nat.le_trans hown.1.2.2 q3⟩)⟩)
                have RA := Lib.hid ((hR1.out.gr hl.2).gr ((Gr.refl wr).alloc (.cells #[.slice al L.length cl] 23)))
                have RB := Lib.hid ((hR2.out.gr hl.2).gr ((Gr.refl wr).alloc (.cells #[.slice al L.length cl] 23)))
                have OW := Lib.hid ((hown.gr hl.2).gr ((Gr.refl wr).alloc (.cells #[.slice al L.length cl] 23)))
                have N1 := Lib.hid (hown.ne B1.out)
                have N2 := Lib.hid (hown.ne B2.out)
                clear h1 h2 h3 h4 hz hl hown
                go_wp2_with (at_builtin; go_must (refine wpList_app_list rfl _ _ 43 rfl Tryd.underlying43 Tryd.info23 nf _ _ rfl OW.out _ _ L rfl (cell_new1 _ _ _) (hy.out.gr ((Gr.refl _).alloc _)) KL.out ?_); intro v1 w4 ow4 g4)
                have RA4 := Lib.hid (RA.out.grown g4 N1.out)
                have RB4 := Lib.hid (RB.out.grown g4 N2.out)
                go_roundw
                case rel => exact ⟨k + 1, hl2, by go_num, by rw [TS.out]; exact ow4, RA4, RB4⟩
                case measure => simp [intOf]; omega
          · have hpv' : (0 : Int) ≤ pv k := by omega
            rw [if_neg hpv, List.append_nil] at TS
            clear hpv
            go_wp2_with fail
            go_roundw
            case rel => exact ⟨k + 1, hl2, by go_num, by rw [TS.out]; exact hown, hR1, hR2⟩
            case measure => simp [intOf]; omega
        · obtain rfl : k = i := by omega
          go_wp2_with fail
          go_ret
          obtain ⟨a, c, rfl, h1, h2, h3⟩ := hown.rd
          exact ⟨a, c, nx, pv, hK.out, rfl, h1, h2, h3, hown.1.1⟩

end Go.Proofs.YtjokheeegcilhaaDoor
