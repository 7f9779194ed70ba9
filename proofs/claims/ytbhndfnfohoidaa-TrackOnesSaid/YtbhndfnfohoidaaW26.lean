/- Contracts of chapter 5: the first witness that tells most, of the reference. -/
import Derived.Test.YtbhndfnfohoidaaW25
namespace Go.Proofs.Ytbhndfnfohoidaa
open Go.RowKit Go.Firn

/-- What was found: a nil slice for none. -/
def Fnd (w : World) (base : Nat) (l : List Nat) (v : Value) : Prop := (l = [] ∧ v = .slice none 0 0) ∨ (l ≠ [] ∧ LiB w base l v)
def RetNar (n : Nat) (X Y : Nat → Int) (w : World) (e : Ending) (w' : World) : Prop :=
  ∃ v, e = .returned (.tuple #[.agg #[.int .i64 (witS X Y (wits n X)).N, .int .i64 (witS X Y (wits n X)).D], v]) ∧ Fnd w' w.heap.size (witS X Y (wits n X)).l v ∧ Gr w w'
theorem LiB.some {w : World} {base : Nat} {l : List Nat} {v : Value} (h : LiB w base l v) (hne : l ≠ []) : ∃ b o c, v = .slice (some ⟨b, o, none⟩) l.length c := by
  obtain ⟨a, c, rfl, _, _, h4⟩ := h
  rcases h4 with h4 | ⟨b, o, rfl, _⟩
  · exact absurd (List.length_eq_zero_iff.1 h4) hne
  · exact ⟨b, o, c, rfl⟩
theorem LiB.down {w : World} {base base' : Nat} {l : List Nat} {v : Value} (h : LiB w base l v) (hb : base' ≤ base) : LiB w base' l v := by
  obtain ⟨a, c, h1, h2, h3, h4⟩ := h
  refine ⟨a, c, h1, h2, h3, h4.imp id ?_⟩
  rintro ⟨b, o, k1, k2, k3⟩
  exact ⟨b, o, k1, by omega, k3⟩
theorem RdTB.at {w : World} {base : Nat} {a : Option Addr} {tb : List (List Nat)} (h : RdTB w base a tb) {k : Nat} (hk : k < tb.length) : ∃ b x, a = some ⟨b, 0, none⟩ ∧ w.cell? ⟨b, k, none⟩ = some x ∧ LiB w base (tb.getD k []) x := by
  rcases h with h | ⟨b, h1, _, h3⟩
  · omega
  · obtain ⟨x, k1, k2⟩ := h3 k hk
    exact ⟨b, x, h1, k1, k2⟩
theorem take_witS {X Y : Nat → Int} {ls : List (List Nat)} {k : Nat} (h : k < ls.length) : witS X Y (ls.take (k + 1)) = wstep X Y (witS X Y (ls.take k)) (ls.getD k []) := by
  rw [List.take_succ_eq_append_getElem h, witS_snoc]
  congr 1
  simp [h]

set_option maxHeartbeats 4000000 in
set_option maxRecDepth 100000 in
theorem narrowest_any (a : Option Addr) (n c : Nat) (X Y : Nat → Int) (V : VP n X Y) (w : World) (hr : RdM w a n X Y) :
    Calls Try.prog 64 #[.slice a n c] w (RetNar n X Y w) := by
  obtain ⟨W0, hW0⟩ : ∃ W0, ((w.alloc (.cells #[.int .i64 0, .int .i64 0] 27)).alloc (.cells #[.int .i64 0, .int .i64 1] 27)) = W0 := ⟨_, rfl⟩
  have S0 : W0.heap.size = w.heap.size + 2 := by rw [← hW0]; simp
  have G0 := Lib.hid (show Gr w W0 by rw [← hW0]; exact ((Gr.refl w).alloc _).alloc _)
  have B2 := Lib.hid (show Box2 W0 w.heap.size 0 0 by rw [← hW0]; exact (Box2.new rfl).gr ((Gr.refl _).alloc _))
  have B4 := Lib.hid (show Box2 W0 (w.heap.size + 1) 0 1 by rw [← hW0]; exact Box2.new (by simp))
  have CW := Lib.hid (witnesses_any a n c X Y V W0 (hr.gr G0.out))
  have HR := Lib.hid hr
  have HV := Lib.hid V
  have n12 := V.few
  have LW := wits_len (X := X) n12
  clear hr V
  go_enter Try.func64, Try.ntmps64
  go_wp2_with (go_at_call 90; refine (CW.out).mono ?_; rintro e w1 ⟨at', ct, rfl, m1, m2, ht, g1⟩; have G1 := Lib.hid (G0.out.trans g1); have T1 := Lib.hid ht; have b2 := Lib.hid (B2.out.gr g1); have b4 := Lib.hid (B4.out.gr g1); clear ht g1)
  clear hW0
  go_loopw [5, 14] (fun v s wr => ∃ k : Nat, k ≤ (wits n X).length ∧ s = .int .i64 k ∧ Hid (Gr w wr) ∧ Hid (Box2 wr (w.heap.size + 1) (witS X Y ((wits n X).take k)).N (witS X Y ((wits n X).take k)).D) ∧ Hid (Box2 wr w.heap.size 0 0) ∧ Hid (RdTB wr W0.heap.size at' (wits n X)) ∧ Fnd wr W0.heap.size (witS X Y ((wits n X).take k)).l v) (fun _ s _ => (wits n X).length - (intOf s).toNat)
  case atStart => exact ⟨0, Nat.zero_le _, rfl, G1, b4, b2, T1, .inl ⟨rfl, rfl⟩⟩
  case round =>
    obtain ⟨k, hk, rfl, GG, HB4, HB2, HT, hf⟩ := hrel
    by_cases hlt : k < (wits n X).length
    · obtain ⟨b, x, rfl, hx, hli⟩ := HT.out.at hlt
      have hw : IsWit n X ((wits n X).getD k []) := wits_wit _ (by rw [List.getD_eq_getElem?_getD, List.getElem?_eq_getElem hlt]; exact List.getElem_mem hlt)
      have hpre : ∀ L ∈ (wits n X).take k, IsWit n X L := fun L hL => wits_wit L (List.mem_of_mem_take hL)
      have SN := Lib.hid (take_witS (X := X) (Y := Y) hlt)
      generalize (wits n X).getD k [] = L at hli hw SN
      have NE := Lib.hid (show L ≠ [] from fun e => by have := hw.2; rw [e] at this; simp at this)
      obtain ⟨bl, ol, cl, rfl⟩ := hli.some NE.out
      have HL := Lib.hid hli
      obtain ⟨al, cl', e0, l1, l2, l3⟩ := hli.rd
      cases e0
      have L3 : L.length ≤ 1000 := by have := hw.2; omega
      have hL := Lib.hid (show Gr w wr ∧ RdI wr (some ⟨bl, ol, none⟩) L.length (nf L) from ⟨GG.out, l3⟩)
      have CT := Lib.hid (show ∀ w1, (Gr w w1 ∧ RdI w1 (some ⟨bl, ol, none⟩) L.length (nf L)) → Calls Try.prog 58 #[.slice a n c, .slice (some ⟨bl, ol, none⟩) L.length cl] w1 (fun e w' => ∃ N D, e = .returned (.tuple #[.agg #[.int .i64 N, .int .i64 D], .bool (witB n X L.length (nf L))]) ∧ (witB n X L.length (nf L) = true → N = LN X Y L ∧ D = LD X Y L) ∧ Gr w1 w') from fun w1 g => reftells_any a n c X Y HV.out (some ⟨bl, ol, none⟩) L.length cl (nf L) w1 L3 l1 (HR.out.gr g.1) g.2)
      have W1 := Lib.hid hw.1
      have i1 : (k : Int) < ((wits n X).length : Int) := by omega
      have BL := LND_bd (Y := Y) HV.out.ok hw
      have BS := witS_bd (Y := Y) HV.out.ok hpre
      obtain ⟨p0, p1, p2, p3⟩ := HB4.out
      have lb4 : w.heap.size + 1 < wr.heap.size := World.block_lt_of_cell? wr _ p0
      have C4 := Lib.hid (fun w' => refLess_any (witS X Y ((wits n X).take k)).N (witS X Y ((wits n X).take k)).D (LN X Y L) (LD X Y L) w' (wit_sz BS.1 BL.2) (wit_sz BL.1 BS.2))
      clear hli hw hpre l1 l2 l3 BL BS L3 p0 p1 p2 p3 hlt
      generalize witS X Y ((wits n X).take k) = s at *
      have eqn := fun (a : Option Addr) (n c : Nat) (w' : World) => run_eql_slice_nil (P := Try.prog) w' 23 3 a n c Try.underlying23
      rcases hf with ⟨hnil, rfl⟩ | ⟨hne, hf⟩
      · have ST := Lib.hid (show wstep X Y s L = ⟨L, LN X Y L, LD X Y L⟩ by unfold wstep; rw [if_pos (.inl hnil)])
        have eq1 := eqn none 0 0
        clear eqn C4
        go_wp2_with (first
          | (go_at_call 58; refine (CT.out _ hL.out).mono ?_; rintro e w2 ⟨N, D, rfl, hnd, g2⟩; obtain ⟨rfl, rfl⟩ := hnd W1.out; clear hnd; rw [W1.out]; have G2 := Lib.hid (g2.alloc (.cells #[.int .i64 (LN X Y L), .int .i64 (LD X Y L)] 27)); have B8 := Lib.hid (show Box2 (w2.alloc (.cells #[.int .i64 (LN X Y L), .int .i64 (LD X Y L)] 27)) w2.heap.size (LN X Y L) (LD X Y L) from Box2.new rfl); obtain ⟨p0, p1, p2, p3⟩ := HB4.out.gr G2.out; clear g2))
        go_roundw
        case rel => exact ⟨k + 1, by omega, by go_num, Lib.hid (((GG.out.trans G2.out).setAt (by omega) _).setAt (by omega) _), Lib.hid (by rw [SN.out, ST.out]; exact Box2.put (HB4.out.gr G2.out)), Lib.hid ((HB2.out.gr G2.out).far (by omega) _ _), Lib.hid (((HT.out.gr G2.out).set (by omega) _).set (by omega) _), by rw [SN.out, ST.out]; exact .inr ⟨NE.out, ((HL.out.gr G2.out).set (by omega) _).set (by omega) _⟩⟩
        case measure => simp [intOf]; omega
      · obtain ⟨bf, of, cf, rfl⟩ := hf.some hne
        have HF := Lib.hid hf
        have eq1 := eqn (some ⟨bf, of, none⟩) s.l.length cf
        clear eqn hf
        by_cases hls : s.N * LD X Y L < LN X Y L * s.D
        · have ST := Lib.hid (show wstep X Y s L = ⟨L, LN X Y L, LD X Y L⟩ by unfold wstep; rw [if_pos (.inr hls)])
          have LT : decide (s.N * LD X Y L < LN X Y L * s.D) = true := decide_eq_true hls
          clear hls
          go_wp2_with (first
            | (go_at_call 58; refine (CT.out _ hL.out).mono ?_; rintro e w2 ⟨N, D, rfl, hnd, g2⟩; obtain ⟨rfl, rfl⟩ := hnd W1.out; clear hnd; rw [W1.out]; have G2 := Lib.hid (g2.alloc (.cells #[.int .i64 (LN X Y L), .int .i64 (LD X Y L)] 27)); have B8 := Lib.hid (show Box2 (w2.alloc (.cells #[.int .i64 (LN X Y L), .int .i64 (LD X Y L)] 27)) w2.heap.size (LN X Y L) (LD X Y L) from Box2.new rfl); obtain ⟨p0, p1, p2, p3⟩ := HB4.out.gr G2.out; clear g2)
            | (go_at_call 46; refine (C4.out _).mono ?_; rintro e w4 ⟨rfl, g4⟩; rw [LT]; have G4 := Lib.hid (G2.out.trans g4); obtain ⟨r0, r1, r2, r3⟩ := B8.out.gr g4; obtain ⟨s0, s1, s2, s3⟩ := HB4.out.gr G4.out; clear g4))
          go_roundw
          case rel => exact ⟨k + 1, by omega, by go_num, Lib.hid (((GG.out.trans G4.out).setAt (by omega) _).setAt (by omega) _), Lib.hid (by rw [SN.out, ST.out]; exact Box2.put (HB4.out.gr G4.out)), Lib.hid ((HB2.out.gr G4.out).far (by omega) _ _), Lib.hid (((HT.out.gr G4.out).set (by omega) _).set (by omega) _), by rw [SN.out, ST.out]; exact .inr ⟨NE.out, ((HL.out.gr G4.out).set (by omega) _).set (by omega) _⟩⟩
          case measure => simp [intOf]; omega
        · have ST := Lib.hid (show wstep X Y s L = s by unfold wstep; rw [if_neg (fun h => h.elim hne hls)])
          have LT : decide (s.N * LD X Y L < LN X Y L * s.D) = false := decide_eq_false hls
          clear hls
          go_wp2_with (first
            | (go_at_call 58; refine (CT.out _ hL.out).mono ?_; rintro e w2 ⟨N, D, rfl, hnd, g2⟩; obtain ⟨rfl, rfl⟩ := hnd W1.out; clear hnd; rw [W1.out]; have G2 := Lib.hid (g2.alloc (.cells #[.int .i64 (LN X Y L), .int .i64 (LD X Y L)] 27)); have B8 := Lib.hid (show Box2 (w2.alloc (.cells #[.int .i64 (LN X Y L), .int .i64 (LD X Y L)] 27)) w2.heap.size (LN X Y L) (LD X Y L) from Box2.new rfl); obtain ⟨p0, p1, p2, p3⟩ := HB4.out.gr G2.out; clear g2)
            | (go_at_call 46; refine (C4.out _).mono ?_; rintro e w4 ⟨rfl, g4⟩; rw [LT]; have G4 := Lib.hid (G2.out.trans g4); obtain ⟨r0, r1, r2, r3⟩ := B8.out.gr g4; obtain ⟨s0, s1, s2, s3⟩ := HB4.out.gr G4.out; clear g4))
          go_roundw
          case rel => exact ⟨k + 1, by omega, by go_num, Lib.hid (GG.out.trans G4.out), Lib.hid (by rw [SN.out, ST.out]; exact HB4.out.gr G4.out), Lib.hid (HB2.out.gr G4.out), Lib.hid (HT.out.gr G4.out), by rw [SN.out, ST.out]; exact .inr ⟨hne, HF.out.gr G4.out⟩⟩
          case measure => simp [intOf]; omega
    · have ek : k = (wits n X).length := by omega
      have TK := Lib.hid (show (wits n X).take k = wits n X by rw [ek, List.take_length])
      have n1 : ((wits n X).length : Int) ≤ (k : Int) := by omega
      rw [TK.out] at hf HB4
      obtain ⟨p0, p1, p2, p3⟩ := HB4.out
      obtain ⟨q0, q1, q2, q3⟩ := HB2.out
      clear hlt ek
      obtain ⟨s, hs⟩ : ∃ s, witS X Y (wits n X) = s := ⟨_, rfl⟩
      have HS := Lib.hid hs
      rw [hs] at hf p0 p1
      clear hs
      have HF := Lib.hid hf
      clear hf
      go_wp2_with fail
      obtain ⟨z0, z1, _, _⟩ := (show Box2 wr w.heap.size 0 0 from ⟨q0, q1, q2, q3⟩).put (x' := s.N) (y' := s.D)
      refine bodyPost_ret (v := .tuple #[.agg #[.int .i64 s.N, .int .i64 s.D], _]) (by simp [results, Try.results64, go_sem, z0, z1]; rfl) rfl ?_
      unfold RetNar
      rw [HS.out]
      refine ⟨_, rfl, ?_, ((GG.out.setAt (Nat.le_refl _) _).setAt (Nat.le_refl _) _)⟩
      rcases HF.out with h | ⟨h1, h2⟩
      · exact .inl h
      · exact .inr ⟨h1, ((h2.set (by omega) _).set (by omega) _).down (by omega)⟩

end Go.Proofs.Ytbhndfnfohoidaa
