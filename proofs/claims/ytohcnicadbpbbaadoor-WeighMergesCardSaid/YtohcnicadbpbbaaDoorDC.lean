/- Contracts of chapter 7: the iterator over all cuts. -/
import Derived.Test.YtohcnicadbpbbaaDoorDB
import Derived.Test.YtohcnicadbpbbaaDoorW6
import Derived.Test.YtohcnicadbpbbaaDoorRap
import Derived.Laws.Bits64b
namespace Go.Proofs.YtohcnicadbpbbaaDoor
open Go.RowKit Go.Firn Go.Shelf Go.Sort
attribute [local go_sem] Oper.semAt_some
attribute [local simp] wide_fn

theorem Tryd.info22 : (Tryd.prog.info? 22).map (fun i => (i.zero, i.size, i.bytes)) = some (some (.slice none 0 0), 1, 24) := by kernel_rfl
theorem shl64 : ∀ n : Nat, n < 11 → IntKind.u64.wrap ((2 : Int) ^ n) = ((2 ^ n : Nat) : Int) ∧ (2 : Int) ^ n = ((2 ^ n : Nat) : Int) := by decide +kernel
/-- A cut, as it is handed to a round. -/
def HxC (n B : Nat) (x : Nat × Value) (W : World) : Prop := x.1 < 2 ^ n ∧ LiB W B (cS n x.1) x.2
def encC (x : Nat × Value) : Array Value := #[x.2]
/-- A cut of the call's own is what a table holds. -/
theorem holds_own {wS w : World} {base : Nat} {v cv : Value} {L : List Nat} (hv : ∀ b, v.ownBlock = some b → b < wS.heap.size) (hb : base ≤ wS.heap.size) (h : OwnI wS 3 w cv L.length (nf L)) : Firn.Holds base w v nf cv L := by
  obtain ⟨a, c, rfl, h1, h2, h3⟩ := h.rd
  refine ⟨a, c, rfl, h1, h2, h3, ?_⟩
  rcases h.1.2 with ⟨e, hz⟩ | ⟨g, cap, cur, e, hg, hh, _⟩
  · exact .inl hz
  · cases e
    refine .inr ⟨g, 0, rfl, (Array.getElem?_eq_some_iff.1 hh).1, fun e => ?_, by omega⟩
    have := hv g e.symm
    omega
theorem bits_and_nat (a b : Nat) (ha : a < 1024) (hb : b < 1024) : bits BinOp.and IntKind.u64 (a : Int) (b : Int) = ((a &&& b : Nat) : Int) := bits_and_u64_nat a b (by omega) (by omega)

set_option maxHeartbeats 4000000 in
set_option maxRecDepth 100000 in
theorem cuts1_seqP {K : Nat → Prop} (m : Nat) (hm : 1 ≤ m) (bs n c d : Nat) (a a2 : Option Addr) (x y : Int) (w : World) (hn : n ≤ 10) (hbs : Box4 w bs (.slice a n c) (.slice a2 n d) (.int .i64 x) (.int .i64 y)) (hT : Tab w) (hK2 : ∀ k, w.heap.size ≤ k → K k) :
    SeqP Fence.wide m Tryd.prog 98 #[.pointer (some ⟨bs, 0, none⟩)] encC (fun _ _ => True) (HxC n w.heap.size) (Kc K) (fun xs => ∃ C, OrdC n C ∧ xs.map (·.1) = (List.range (2 ^ n)).map C) w := fun l J W hW hJ hY h0 => by
  obtain ⟨p0, p1, p2, p3, _⟩ := hbs.gr hW
  have HT := Lib.hid (hT.gr hW)
  have YY := Lib.hid hY
  have JJ := Lib.hid hJ
  have H0 := Lib.hid h0
  have HK := Lib.hid hK2
  have SZ : w.heap.size ≤ W.heap.size := Gr.size hW
  obtain ⟨sh1, sh2⟩ := shl64 n (by omega)
  have SH := Lib.hid sh2
  have h10 := two_pow_le hn
  obtain ⟨N, hN⟩ : ∃ N, 2 ^ n = N := ⟨_, rfl⟩
  rw [hN] at sh1 h10
  have HN := Lib.hid hN
  clear hbs hT hY hJ h0 hK2 hW sh2 hN
  refine callsIn_of_wp Tryd.func98 rfl trivial ?_ rfl
  simp only [Tryd.ntmps98, List.size_toArray, List.length_cons, List.length_nil, Nat.reduceAdd, Nat.reduceSub, Array.replicate_succ, Array.replicate_zero, List.push_toArray, List.append_toArray, List.nil_append, List.cons_append]
  gi_wp2_with (gi_at_call 55; (with_reducible refine (callsIn_wide.2 (many_any _ _ _ _ _ _ _)).mono ?_); rintro e w1 ⟨rfl, g1⟩; have G1 := Lib.hid g1; clear g1)
  gi_loopw [3, 12] (fun v i wr => ∃ s : Nat, s ≤ N ∧ i = .int .u64 s ∧ Hid (OwnT W W.heap.size nf wr v ((List.range s).map (cS n)))) (fun _ i _ => N - (intOf i).toNat)
  case atStart => exact ⟨0, by omega, rfl, Lib.hid (OwnT.nil' G1.out (Nat.le_refl _) (Gr.size G1.out) nf)⟩
  case round =>
    obtain ⟨s, hs, rfl, HT1⟩ := hrel
    by_cases hlt : s < N
    · have i1 : (s : Int) < (N : Int) := by omega
      have HL := Lib.hid (fun j hj => rs_law (n := n) (s := s) (j := j) hn (by rw [HN.out]; exact hlt) hj)
      have LL := cS_len (n := n) s
      have qs : IntKind.u64.wrap ((s : Int) + 1) = ((s + 1 : Nat) : Int) := by rw [IntKind.wrap_u64]; omega
      have TS := Lib.hid (show (List.range (s + 1)).map (cS n) = (List.range s).map (cS n) ++ [cS n s] by rw [List.range_succ, List.map_append]; rfl)
      have TL := Lib.hid (show ((List.range s).map (cS n)).length < 1000000 by simp; omega)
      have R0 := Lib.hid (show rs s 0 = s from rfl)
      generalize (List.range s).map (cS n) = tb at *
      generalize wr = wS at *
      gi_wp2
      gi_loopw [5, 6] (fun cv r wq => ∃ j : Nat, j ≤ (cS n s).length ∧ r = .int .u64 (rs s j : Nat) ∧ Hid (OwnI wS 3 wq cv j (nf (cS n s)))) (fun _ r _ => (intOf r).toNat)
      case atStart => exact ⟨0, by omega, by rw [R0.out], Lib.hid (OwnI.nil _ _ _)⟩
      case round =>
        obtain ⟨j, hj, rfl, HO⟩ := hrel
        obtain ⟨r1, r2, r3⟩ := HL.out j hj
        by_cases hlj : j < (cS n s).length
        · have r0 : rs s j ≠ 0 := fun e => by have := r1.1 e; omega
          have CZ := Lib.hid (r2 r0).symm
          have ES := Lib.hid (show rs s (j + 1) = rs s j &&& (rs s j - 1) from rfl)
          have LT := Lib.hid (show rs s (j + 1) < rs s j by rw [ES.out]; have := Nat.and_le_right (n := rs s j) (m := rs s j - 1); omega)
          clear r1 r2
          generalize hr' : rs s (j + 1) = r' at *
          have HR' := Lib.hid hr'
          clear hr'
          generalize rs s j = r at *
          have b0 : ((r : Int) == 0) = false := by simp; omega
          have b1 : ((r : Int) != 0) = true := by simp; omega
          have qa : IntKind.u64.wrap ((r : Int) - 1) = ((r - 1 : Nat) : Int) := by rw [IntKind.wrap_u64]; omega
          have qb : bits BinOp.and IntKind.u64 (r : Int) ((r - 1 : Nat) : Int) = (r' : Int) := by rw [bits_and_nat _ _ r3 (by omega), ES.out]
          have CT := Lib.hid (fun w' (hT : Tab w') => tz_any r w' r0 (by omega) hT)
          have k9 : j < 1000000000 := by omega
          have HTr := Lib.hid (HT.out.gr (HT1.out.1.1.trans HO.out.2))
          have LT2 := LT.out
          clear r0
          gi_wp2_with (first
            | (gi_at_call 99; (with_reducible refine (callsIn_wide.2 (CT.out _ HTr.out)).mono ?_); rintro e w2 ⟨rfl, rfl⟩)
            | (gi_at_builtin; refine wpListIn_app_int rfl _ _ 22 3 rfl Tryd.underlying22 Tryd.info3 _ j _ rfl (HO.out.gr ((Gr.refl _).alloc _)) _ _ rfl (cell_new1 _ _ _) CZ.out k9 ?_; intro v1 w3 hown1 _; have HO1 := Lib.hid hown1; clear hown1))
          go_roundw
          case rel => exact ⟨j + 1, hlj, by rw [HR'.out], HO1⟩
          case measure => simp [intOf]; omega
        · have e0 : rs s j = 0 := r1.2 (by omega)
          have ej : j = (cS n s).length := by omega
          have HO2 := Lib.hid (show OwnI wS 3 wr _ (cS n s).length (nf (cS n s)) from ej ▸ HO.out)
          have OT := Lib.hid (HT1.out.gr HO.out.2)
          have HH := Lib.hid (holds_own (fun b hb => HT1.out.lt hb) HT1.out.1.2.2 HO2.out)
          obtain ⟨ac, cc, rfl, _, _, _⟩ := HO2.out.rd
          clear r1 r2 r3 ej
          rw [e0]
          clear e0 HO
          gi_wp2_with (gi_at_builtin; refine wpListIn_app_list rfl _ _ 100 rfl Tryd.underlying100 Tryd.info22 nf _ _ rfl (OT.out.gr ((Gr.refl _).alloc _)) _ _ (cS n s) rfl (cell_new1 _ _ _) (HH.out.gr ((Gr.refl _).alloc _)) TL.out ?_; intro v1 w4 ow4 _; have OW := Lib.hid ow4; clear ow4)
          go_roundw
          case rel => exact ⟨s + 1, hlt, by go_num, by rw [TS.out]; exact OW⟩
          case measure => simp [intOf]; omega
    · have i1 : ¬ (s : Int) < (N : Int) := by omega
      have OT := Lib.hid (show OwnT W W.heap.size nf wr _ (tabC n) by unfold tabC; rw [HN.out, ← show s = N by omega]; exact HT1.out)
      clear HT1
      gi_wp2_with (gi_at_call 100; (with_reducible refine (callsIn_wide.2 (SortFunc_any hn OT.out)).mono ?_); rintro e w5 ⟨rfl, C, A, g, cap, oc, ev, l1, l2, hg, gs, hc, hl⟩; rw [HN.out] at ev l1 hc; have GS := Lib.hid (OT.out.1.1.grown gs (fun k hk => by cases hk; exact hg)); have OC := Lib.hid oc; have HC := Lib.hid hc; have HLi := Lib.hid hl; clear oc gs hc hl; subst ev)
      have J5 := Lib.hid (JJ.out [] W w5 none H0.out (grows GS.out) (fun r e => by cases e))
      gi_loopw [36] (fun i wr => ∃ k : Nat, k ≤ N ∧ i = .int .i64 k ∧ Hid (J ((List.range k).map (fun j => (C j, A (C j)))) wr) ∧ Hid (Kc K w5 wr)) (fun i _ => N - (intOf i).toNat)
      case atStart => exact ⟨0, by omega, rfl, J5, Lib.hid (fun _ _ _ h => h)⟩
      case round =>
        obtain ⟨k, hk, rfl, HJ, HKc⟩ := hrel
        by_cases hlk : k < N
        · have i2 : (k : Int) < (N : Int) := by omega
          have kg : K g := HK.out g (by omega)
          have cx := HKc.out ⟨g, k, none⟩ _ kg (HC.out k hlk)
          have CL := OC.out.lt k (by rw [HN.out]; exact hlk)
          have HX := Lib.hid (show HxC n w.heap.size (C k, A (C k)) wr from ⟨CL, ((HLi.out (C k) CL).kc HKc.out (fun i hi => HK.out i (by omega))).low SZ⟩)
          have E := Lib.hid (show (List.range (k + 1)).map (fun j => (C j, A (C j))) = (List.range k).map (fun j => (C j, A (C j))) ++ [(C k, A (C k))] by rw [List.range_succ, List.map_append]; rfl)
          obtain ⟨fn, tmps, assign, body, hy, hR⟩ := YY.out _ (C k, A (C k)) wr trivial HJ.out HX.out
          have hy' : (Instr.yield l #[A (C k)]).run Tryd.prog wr = .ok (.round l fn tmps assign body) wr := hy
          have HRR := Lib.hid hR
          rw [← E.out] at HRR
          clear hy hR E CL HX kg
          generalize A (C k) = av at *
          gi_wp2
          refine HRR.out.mono ?_
          rintro e W' ⟨rfl, hJ', hk'⟩
          have J6 := Lib.hid hJ'
          have K6 := Lib.hid (HKc.out.trans hk')
          clear hJ' hk'
          gi_wp2
          go_roundw
          case rel => exact ⟨k + 1, hlk, by go_num, J6, K6⟩
          case measure => simp [intOf]; omega
        · have n1 : (N : Int) ≤ (k : Int) := by omega
          have EN := Lib.hid (show k = N by omega)
          clear hlk
          gi_wp2
          go_end0
          exact ⟨⟨_, rfl⟩, _, ⟨C, OC.out, by rw [HN.out, ← EN.out, List.map_map]; rfl⟩, HJ.out⟩

end Go.Proofs.YtohcnicadbpbbaaDoor
