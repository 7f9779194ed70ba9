/- Contracts of chapter 9: the reference's product of two sums. -/
import Derived.Test.YtehdemcfeoiecaaDoorV8
import Derived.Test.YtehdemcfeoiecaaDoorRhe
namespace Go.Proofs.YtehdemcfeoiecaaDoor
open Go.RowKit Go.Firn Go.Shelf Go.Maps Go.WideMaps

theorem tx_of (s : ByteArray) : tx s.data.toList = s := by
  apply ByteArray.ext
  simp [tx]
theorem mixedS_any (p q : ByteArray) (hp : p.size ≤ 1000) (hq : q.size ≤ 1000) (w : World) :
    Calls Tryd.prog 66 #[.string p, .string q] w (fun e w' => e = .returned (.string (tx (mgK p.data.toList q.data.toList))) ∧ Gr w w') := by
  have := mixed_any p.data.toList q.data.toList (by rw [size_key]; exact hp) (by rw [size_key]; exact hq) w
  rwa [tx_of, tx_of] at this

/-- The two products that are read. -/
def S4 (pb xb : Nat) (s : ByteArray) (m : Int) (s' : ByteArray) (m' : Int) (w : World) : Prop := w.cell? ⟨pb, 0, none⟩ = some (.string s) ∧ w.cell? ⟨pb, 1, none⟩ = some (.int .i64 m) ∧ w.cell? ⟨xb, 0, none⟩ = some (.string s') ∧ w.cell? ⟨xb, 1, none⟩ = some (.int .i64 m')
theorem S4.gr {pb xb : Nat} {s : ByteArray} {m : Int} {s' : ByteArray} {m' : Int} {w w' : World} (h : S4 pb xb s m s' m' w) (g : Gr w w') : S4 pb xb s m s' m' w' := ⟨g.cell h.1, g.cell h.2.1, g.cell h.2.2.1, g.cell h.2.2.2⟩
theorem S4.by {pb xb : Nat} {s : ByteArray} {m : Int} {s' : ByteArray} {m' : Int} {w w' : World} {row : Option Nat} (h : S4 pb xb s m s' m' w) (g : w.grownBy w' row) (h1 : some pb ≠ row) (h2 : some xb ≠ row) : S4 pb xb s m s' m' w' := ⟨g.cell h.1 h1, g.cell h.2.1 h1, g.cell h.2.2.1 h2, g.cell h.2.2.2 h2⟩
/-- What the list is after k rounds. -/
structure Bd (k : Nat) (L : SL) : Prop where
  pos : Pos L
  tot : Go.Proofs.YtehdemcfeoiecaaDoor.tot (fun _ => 1) L ≤ 400000000000 * k
  len : L.length ≤ 40 * k
  key : ∀ x ∈ L, x.1.length ≤ 24
theorem Bd.nil : Bd 0 [] := ⟨by simp [Pos], by simp [Go.Proofs.YtehdemcfeoiecaaDoor.tot], by simp, by simp⟩
theorem Bd.inn {k : Nat} {L t : SL} {a : Key × Int} (h : Bd k L) (ha : 1 ≤ a.2 ∧ a.2 ≤ 100000 ∧ a.1.length ≤ 12) (ht : OkL t) : Bd (k + 1) (innL a t L) := by
  refine ⟨Pos.inn ha.1 ht.vl.2.1 h.pos, ?_, ?_, inn_keys (k := 12) ha.2.2 ht.key h.key⟩
  · rw [tot_inn]
    have h1 := ht.tot
    have h2 := h.tot
    have h3 := Int.mul_le_mul ha.2.1 h1.2 h1.1 (by omega)
    omega
  · have h1 := inn_len (a := a) (t := t) (o := L)
    have h2 := h.len
    have h3 := ht.le
    omega
theorem Bd.put {k : Nat} {L : SL} {m : Int} (h : Bd k L) (hk : k ≤ 100) (h0 : 0 ≤ m) (h1 : m ≤ 10000000000) : L.length ≤ 900000 ∧ (∀ x ∈ L, 0 ≤ x.2 ∧ x.2 + m ≤ 4000000000000000000) ∧ 0 ≤ m :=
  ⟨by have := h.len; omega, cnt_bd (T := 40000000000000) h.pos (by have := h.tot; omega) (by omega), h0⟩
theorem _root_.Go.Firn.OwnS.bl {w0 w : World} {e : TypeId} {v : Value} {L : SL} (h : OwnS w0 e w v L) : ∀ q, v.ownBlock = some q → q < w.heap.size := fun q hq => (h.1.lt q hq).2
theorem timesR_cons {a : Key × Int} {s t o : SL} : timesR (a :: s) t o = if overL (innL a t o) = true then innL a t o else timesR s t (innL a t o) := rfl
theorem ofS_cons {f : Nat → ByteArray} {g : Nat → Int} {n k : Nat} (h : k < n) : (ofS f g n).drop k = ((f k).data.toList, g k) :: (ofS f g n).drop (k + 1) := by
  rw [List.drop_eq_getElem_cons (by rw [ofS_length]; exact h)]
  have := ofS_get (f := f) (g := g) h
  rw [List.getElem?_eq_getElem (by rw [ofS_length]; exact h)] at this
  rw [Option.some.inj this]

set_option maxRecDepth 100000 in
set_option maxHeartbeats 8000000 in
theorem rtimes_any (a : Option Addr) (n c : Nat) (f : Nat → ByteArray) (g : Nat → Int) (a' : Option Addr) (n' c' : Nat) (f' : Nat → ByteArray) (g' : Nat → Int) (w : World)
    (hO : OkL (ofS f g n)) (hO' : OkL (ofS f' g' n')) (hr : RdS w a n f g) (hr' : RdS w a' n' f' g') :
    Calls Tryd.prog 42 #[.slice a n c, .slice a' n' c'] w (fun e w' => RetO w (timesR (ofS f g n) (ofS f' g' n') []) e w' ∧ ∀ x ∈ timesR (ofS f g n) (ofS f' g' n') [], x.1.length ≤ 24) := by
  have hn : n ≤ 40 := by have := hO.le; rwa [ofS_length] at this
  have hn' : n' ≤ 40 := by have := hO'.le; rwa [ofS_length] at this
  have HR := Lib.hid hr
  have HR' := Lib.hid hr'
  have HA := Lib.hid (show ∀ k, k < n → (1 ≤ g k ∧ g k ≤ 100000 ∧ (f k).data.toList.length ≤ 12) ∧ srtK (f k).data.toList ∧ (f k).size ≤ 1000 from fun k hk => by
    have hm : ((f k).data.toList, g k) ∈ ofS f g n := ofS_mem.2 ⟨k, hk, rfl⟩
    have h1 := hO.cnt _ hm
    have h2 := hO.vl.2.1 _ hm
    have h3 := hO.key _ hm
    exact ⟨⟨h2, h1, h3⟩, (hO.vl.2.2 _ hm).2, by rw [← size_key]; exact Nat.le_trans h3 (by omega)⟩)
  have HA' := Lib.hid (show ∀ k, k < n' → (1 ≤ g' k ∧ g' k ≤ 100000 ∧ (f' k).data.toList.length ≤ 12) ∧ srtK (f' k).data.toList ∧ (f' k).size ≤ 1000 from fun k hk => by
    have hm : ((f' k).data.toList, g' k) ∈ ofS f' g' n' := ofS_mem.2 ⟨k, hk, rfl⟩
    have h1 := hO'.cnt _ hm
    have h2 := hO'.vl.2.1 _ hm
    have h3 := hO'.key _ hm
    exact ⟨⟨h2, h1, h3⟩, (hO'.vl.2.2 _ hm).2, by rw [← size_key]; exact Nat.le_trans h3 (by omega)⟩)
  have HP := Lib.hid (show ∀ k, k ≤ n' → OkL (ofS f' g' k) from fun k hk => by rw [ofS_pre hk]; exact hO'.take k)
  have HS := Lib.hid (show ∀ k, k < n → (ofS f g n).drop k = ((f k).data.toList, g k) :: (ofS f g n).drop (k + 1) from fun k hk => ofS_cons hk)
  have HE := Lib.hid (show (ofS f g n).drop n = [] by rw [List.drop_eq_nil_iff, ofS_length]; exact Nat.le_refl _)
  have H00 := Lib.hid (show timesR ((ofS f g n).drop 0) (ofS f' g' n') [] = timesR (ofS f g n) (ofS f' g' n') [] from rfl)
  clear hr hr' hO hO'
  obtain ⟨Ls, hLs⟩ : ∃ Ls, ofS f g n = Ls := ⟨_, rfl⟩
  rw [hLs] at HS HE H00 ⊢
  clear hLs
  have HI := Lib.hid (fun j => show ofS f' g' (j + 1) = ofS f' g' j ++ [((f' j).data.toList, g' j)] from ofS_succ _ _ _)
  go_enter Tryd.func42, Tryd.ntmps42
  go_wp2
  go_loopw [5, 12] (fun vo si wr => ∃ (k : Nat) (Lo : SL), k ≤ n ∧ si = .int .i64 k ∧ Hid (OwnS w 34 wr vo Lo) ∧ Hid (Bd k Lo) ∧ Hid (timesR (Ls.drop k) (ofS f' g' n') Lo = timesR Ls (ofS f' g' n') [])) (fun _ si _ => n - (intOf si).toNat)
  case atStart => exact ⟨0, [], Nat.zero_le _, rfl, Lib.hid (OwnS.nil w 34), Lib.hid Bd.nil, H00⟩
  case round =>
    obtain ⟨k, Lo, hk, rfl, HW, HB, HT⟩ := hrel
    by_cases hlt : k < n
    · have i1 : (k : Int) < (n : Int) := by omega
      obtain ⟨b, o, rfl, hc⟩ := (HR.out.gr HW.out.2).at hlt
      obtain ⟨k0, k1⟩ := hc k hlt
      obtain ⟨z0, z1⟩ := box2 wr (f k) (g k) 34
      obtain ⟨A1, A2, A3⟩ := HA.out k hlt
      have HAk := Lib.hid (And.intro A1 (And.intro A2 A3))
      have HBk := Lib.hid (show ∀ j, j ≤ n' → Bd (k + 1) (innL ((f k).data.toList, g k) (ofS f' g' j) Lo) from fun j hj => HB.out.inn A1 (HP.out j hj))
      have HTk := Lib.hid (show timesR (((f k).data.toList, g k) :: Ls.drop (k + 1)) (ofS f' g' n') Lo = timesR Ls (ofS f' g' n') [] by rw [← HS.out k hlt]; exact HT.out)
      have HIk := Lib.hid (fun j => show innL ((f k).data.toList, g k) (ofS f' g' (j + 1)) Lo = putL (mx (f k).data.toList (f' j).data.toList) (g k * g' j) (innL ((f k).data.toList, g k) (ofS f' g' j) Lo) by rw [HI.out j, inn_snoc])
      have HBx := Lib.hid (fun W (G : Gr (wr.alloc (.cells #[.string (f k), .int .i64 (g k)] 34)) W) => show W.cell? ⟨wr.heap.size, 0, none⟩ = some (.string (f k)) ∧ W.cell? ⟨wr.heap.size, 1, none⟩ = some (.int .i64 (g k)) from ⟨G.cell z0, G.cell z1⟩)
      have H0 := Lib.hid (HW.out.alloc (.cells #[.string (f k), .int .i64 (g k)] 34))
      have HOb := Lib.hid (OwnS.bl HW.out)
      clear hc A1 A2 A3 HB HT
      generalize f k = s at *
      generalize g k = m at *
      obtain ⟨pb, hpb⟩ : ∃ pb, wr.heap.size = pb := ⟨_, rfl⟩
      rw [hpb] at HOb HBx z0 z1
      have HPb := Lib.hid hpb
      have HZ0 := Lib.hid (And.intro z0 z1)
      have HG0 := Lib.hid (show Gr w (wr.alloc (.cells #[.string s, .int .i64 m] 34)) from H0.out.2)
      have Hsz := Lib.hid (show pb < (wr.alloc (.cells #[.string s, .int .i64 m] 34)).heap.size by simp; omega)
      go_wp2_with fail
      clear hpb
      go_loopw [5, 18] (fun vo si wi => ∃ j : Nat, j ≤ n' ∧ si = .int .i64 j ∧ Hid (OwnS w 34 wi vo (innL (s.data.toList, m) (ofS f' g' j) Lo)) ∧ Hid (wi.cell? ⟨pb, 0, none⟩ = some (.string s) ∧ wi.cell? ⟨pb, 1, none⟩ = some (.int .i64 m)) ∧ Hid (∀ q, vo.ownBlock = some q → q ≠ pb) ∧ Hid (pb < wi.heap.size)) (fun _ si _ => n' - (intOf si).toNat)
      case atStart => exact ⟨0, Nat.zero_le _, rfl, H0, HZ0, Lib.hid (fun q hq e => by have := HOb.out q hq; omega), Hsz⟩
      case round =>
        obtain ⟨j, hj, rfl, HV, HZ, HOn, HPs⟩ := hrel
        by_cases hlt' : j < n'
        · have i2 : (j : Int) < (n' : Int) := by omega
          obtain ⟨b', o', rfl, hc'⟩ := (HR'.out.gr HV.out.2).at hlt'
          obtain ⟨j0, j1⟩ := hc' j hlt'
          obtain ⟨y0, y1⟩ := box2 wr (f' j) (g' j) 34
          obtain ⟨p0, p1⟩ := HZ.out
          have HC4 := Lib.hid (fun W (G : Gr (wr.alloc (.cells #[.string (f' j), .int .i64 (g' j)] 34)) W) => show W.cell? ⟨pb, 0, none⟩ = some (.string s) ∧ W.cell? ⟨pb, 1, none⟩ = some (.int .i64 m) ∧ W.cell? ⟨wr.heap.size, 0, none⟩ = some (.string (f' j)) ∧ W.cell? ⟨wr.heap.size, 1, none⟩ = some (.int .i64 (g' j)) from ⟨G.cell (((Gr.refl wr).alloc _).cell p0), G.cell (((Gr.refl wr).alloc _).cell p1), G.cell y0, G.cell y1⟩)
          obtain ⟨B1, B2, B3⟩ := HA'.out j hlt'
          have HM := Lib.hid (show mgK s.data.toList (f' j).data.toList = mx s.data.toList (f' j).data.toList from mgK_is HAk.out.2.1 B2)
          have hmul : 1 ≤ m * g' j ∧ m * g' j ≤ 10000000000 := by
            have h1 := Int.mul_le_mul HAk.out.1.1 B1.1 (by omega) (by have := HAk.out.1.1; omega)
            have h2 := Int.mul_le_mul HAk.out.1.2.1 B1.2.1 (by have := B1.1; omega) (by omega)
            omega
          have hput := (HBk.out j hj).put (m := m * g' j) (by omega) (by omega) hmul.2
          have HMul := Lib.hid hmul
          have CM := Lib.hid (fun W => mixedS_any s (f' j) HAk.out.2.2 B3 W)
          have HVa := Lib.hid (HV.out.alloc (.cells #[.string (f' j), .int .i64 (g' j)] 34))
          have HIj := Lib.hid (HIk.out j)
          have HPut := Lib.hid hput
          have hw : IntKind.i64.wrap (m * g' j) = m * g' j := IntWalk.i64_in _ (by omega)
          have HPs' := Lib.hid (show pb < (wr.alloc (.cells #[.string (f' j), .int .i64 (g' j)] 34)).heap.size by have := HPs.out; simp; omega)
          have HV2 := Lib.hid HV.out.2
          have HNe := Lib.hid (OwnS.bl HV.out)
          clear hc' hmul hput B1 B2 B3 p0 p1 y0 y1 HV HZ HPs
          generalize f' j = s' at *
          generalize g' j = m' at *
          obtain ⟨mm, hmm⟩ : ∃ mm, m * m' = mm := ⟨_, rfl⟩
          rw [hmm] at HPut HIj HMul
          replace hw : IntKind.i64.wrap (m * m') = mm := hw.trans hmm
          clear hmm
          have HW1 := Lib.hid (Gr.refl (wr.alloc (.cells #[.string s', .int .i64 m'] 34)))
          generalize hwa : wr.alloc (.cells #[.string s', .int .i64 m'] 34) = wa at *
          go_upto_region 8 with fail
          generalize hxb : wr.heap.size = xb at *
          clear hwa hxb
          refine (wpIn_wide (n := 3)).1 ?_
          refine wpIn_region_held (fun w' => S4 pb xb s m s' m' w' ∧ True) 14 (by kernel_rfl) rfl rfl ?_
          have hS : S4 pb xb s m s' m' wa.drew ∧ True := ⟨HC4.out _ (Gr.refl wa).drew, trivial⟩
          iterate 10 (first
            | (refine wpAnyHIn_take 0 (v := ?_) rfl (by kernel_rfl) (by kernel_rfl) (by kernel_rfl) (by decide +kernel) (fun _ _ _ h => h) (fun _ _ _ => trivial) (by rfl) (fun w' hSw => ?_) hS ?_; rotate_left 1; (focus (obtain ⟨⟨u0, u1, u2, u3⟩, _⟩ := id hSw; go_simp; try with_reducible rfl)); simp only [Act.put, List.setIfInBounds_toArray, List.set_cons_zero, List.set_cons_succ])
            | (refine wpAnyHIn_take 1 (v := ?_) rfl (by kernel_rfl) (by kernel_rfl) (by kernel_rfl) (by decide +kernel) (fun _ _ _ h => h) (fun _ _ _ => trivial) (by rfl) (fun w' hSw => ?_) hS ?_; rotate_left 1; (focus (obtain ⟨⟨u0, u1, u2, u3⟩, _⟩ := id hSw; go_simp; try with_reducible rfl)); simp only [Act.put, List.setIfInBounds_toArray, List.set_cons_zero, List.set_cons_succ])
            | (refine wpAnyHIn_take 2 (v := ?_) rfl (by kernel_rfl) (by kernel_rfl) (by kernel_rfl) (by decide +kernel) (fun _ _ _ h => h) (fun _ _ _ => trivial) (by rfl) (fun w' hSw => ?_) hS ?_; rotate_left 1; (focus (obtain ⟨⟨u0, u1, u2, u3⟩, _⟩ := id hSw; go_simp; try with_reducible rfl)); simp only [Act.put, List.setIfInBounds_toArray, List.set_cons_zero, List.set_cons_succ])
            | (refine wpAnyHIn_take 3 (v := ?_) rfl (by kernel_rfl) (by kernel_rfl) (by kernel_rfl) (by decide +kernel) (fun _ _ _ h => h) (fun _ _ _ => trivial) (by rfl) (fun w' hSw => ?_) hS ?_; rotate_left 1; (focus (obtain ⟨⟨u0, u1, u2, u3⟩, _⟩ := id hSw; go_simp; try with_reducible rfl)); simp only [Act.put, List.setIfInBounds_toArray, List.set_cons_zero, List.set_cons_succ])
            | (refine wpAnyHIn_take 4 (v := ?_) rfl (by kernel_rfl) (by kernel_rfl) (by kernel_rfl) (by decide +kernel) (fun _ _ _ h => h) (fun _ _ _ => trivial) (by rfl) (fun w' hSw => ?_) hS ?_; rotate_left 1; (focus (obtain ⟨⟨u0, u1, u2, u3⟩, _⟩ := id hSw; go_simp; try with_reducible rfl)); simp only [Act.put, List.setIfInBounds_toArray, List.set_cons_zero, List.set_cons_succ])
            | (refine wpAnyHIn_take 6 (v := ?_) rfl (by kernel_rfl) (by kernel_rfl) (by kernel_rfl) (by decide +kernel) (fun _ _ _ h => h) (fun _ _ _ => trivial) (by rfl) (fun w' hSw => ?_) hS ?_; rotate_left 1; (focus (obtain ⟨⟨u0, u1, u2, u3⟩, _⟩ := id hSw; go_simp; try with_reducible rfl)); simp only [Act.put, List.setIfInBounds_toArray, List.set_cons_zero, List.set_cons_succ])
            | (refine wpAnyHIn_take 7 (v := ?_) rfl (by kernel_rfl) (by kernel_rfl) (by kernel_rfl) (by decide +kernel) (fun _ _ _ h => h) (fun _ _ _ => trivial) (by rfl) (fun w' hSw => ?_) hS ?_; rotate_left 1; (focus (obtain ⟨⟨u0, u1, u2, u3⟩, _⟩ := id hSw; go_simp; try with_reducible rfl)); simp only [Act.put, List.setIfInBounds_toArray, List.set_cons_zero, List.set_cons_succ])
            | (refine wpAnyHIn_take 8 (v := ?_) rfl (by kernel_rfl) (by kernel_rfl) (by kernel_rfl) (by decide +kernel) (fun _ _ _ h => h) (fun _ _ _ => trivial) (by rfl) (fun w' hSw => ?_) hS ?_; rotate_left 1; (focus (obtain ⟨⟨u0, u1, u2, u3⟩, _⟩ := id hSw; go_simp; try with_reducible rfl)); simp only [Act.put, List.setIfInBounds_toArray, List.set_cons_zero, List.set_cons_succ])
            | (refine wpAnyHIn_take 9 (v := ?_) rfl (by kernel_rfl) (by kernel_rfl) (by kernel_rfl) (by decide +kernel) (fun _ _ _ h => h) (fun _ _ _ => trivial) (by rfl) (fun w' hSw => ?_) hS ?_; rotate_left 1; (focus (obtain ⟨⟨u0, u1, u2, u3⟩, _⟩ := id hSw; go_simp; try with_reducible rfl)); simp only [Act.put, List.setIfInBounds_toArray, List.set_cons_zero, List.set_cons_succ])
            | (refine wpAnyHIn_take 10 (v := ?_) rfl (by kernel_rfl) (by kernel_rfl) (by kernel_rfl) (by decide +kernel) (fun _ _ _ h => h) (fun _ _ _ => trivial) (by rfl) (fun w' hSw => ?_) hS ?_; rotate_left 1; (focus (obtain ⟨⟨u0, u1, u2, u3⟩, _⟩ := id hSw; go_simp; try with_reducible rfl)); simp only [Act.put, List.setIfInBounds_toArray, List.set_cons_zero, List.set_cons_succ]))
          refine wpAnyHIn_ready [5] (by kernel_rfl) (by simp) ?_
          refine AllHIn.cons rfl (by rfl) (fun K hK => ?_) AllHIn.nil
          go_simp
          refine ⟨trivial, ?_⟩
          refine (callsIn_wide.2 (CM.out _)).mono ?_
          rintro e wX ⟨rfl, gX⟩
          have HG3 := Lib.hid (show Gr wa wX from ((Gr.refl wa).drew).trans gX)
          have HV3 := Lib.hid (HVa.out.gr HG3.out)
          have hS3 := hS.1.gr gX
          have hS : S4 pb xb s m s' m' wX ∧ True := ⟨hS3, trivial⟩
          refine hK.out _ _ hS ?_
          clear hK K gX hS3
          iterate 1 (first
            | (refine wpAnyHIn_take 11 (v := ?_) rfl (by kernel_rfl) (by kernel_rfl) (by kernel_rfl) (by decide +kernel) (fun _ _ _ h => h) (fun _ _ _ => trivial) (by rfl) (fun w' hSw => ?_) hS ?_; rotate_left 1; (focus (obtain ⟨⟨u0, u1, u2, u3⟩, _⟩ := id hSw; go_simp; try with_reducible rfl)); simp only [Act.put, List.setIfInBounds_toArray, List.set_cons_zero, List.set_cons_succ]))
          refine wpAnyHIn_ready [12] (by kernel_rfl) (by simp) ?_
          refine AllHIn.cons rfl (by rfl) (fun K hK => ?_) AllHIn.nil
          go_simp
          refine ⟨trivial, ?_⟩
          refine (callsIn_wide.2 (put_any w _ _ (tx (mgK s.data.toList s'.data.toList)) mm wX HV3.out HPut.out.1 HPut.out.2.1 HPut.out.2.2)).mono ?_
          rintro e w4 ⟨v4, rfl, h1, h2, h3⟩
          have hS4 := hS.1.by h2 (fun e => HOn.out pb e.symm rfl) (fun e => Nat.lt_irrefl _ (HNe.out _ e.symm))
          have H4 := Lib.hid (And.intro h1 (And.intro h2 h3))
          have hS : S4 pb xb s m s' m' w4 ∧ True := ⟨hS4, trivial⟩
          refine hK.out _ _ hS ?_
          clear hK K h1 h2 h3 hS4
          iterate 1 (first
            | (refine wpAnyHIn_take 13 (v := ?_) rfl (by kernel_rfl) (by kernel_rfl) (by kernel_rfl) (by decide +kernel) (fun _ _ _ h => h) (fun _ _ _ => trivial) (by rfl) (fun w' hSw => ?_) hS ?_; rotate_left 1; (focus (obtain ⟨⟨u0, u1, u2, u3⟩, _⟩ := id hSw; go_simp; try with_reducible rfl)); simp only [Act.put, List.setIfInBounds_toArray, List.set_cons_zero, List.set_cons_succ]))
          refine wpAnyHIn_done (by kernel_rfl) ?_ _
          have HSe := Lib.hid hS.1
          clear hS
          go_wp2_with fail
          refine ⟨⟨j + 1, hlt', by go_num, ?_, Lib.hid ⟨HSe.out.1, HSe.out.2.1⟩, ?_, ?_⟩, by simp [intOf]; omega⟩
          · have h := H4.out.1
            rw [tx_list, HM.out, ← HIj.out] at h
            exact Lib.hid h
          · refine Lib.hid fun q hq e => ?_
            rcases H4.out.2.2 with h | h
            · exact HOn.out q (h.symm.trans hq) e
            · have h1 := h q hq
              have h2 := HG3.out.size
              have h3 := HPs'.out
              omega
          · have h1 := H4.out.2.1.size
            have h2 := HG3.out.size
            have h3 := HPs'.out
            exact Lib.hid (by omega)
        · obtain rfl : j = n' := by omega
          have i2 : ¬ (j : Int) < (j : Int) := by omega
          have HBe := Lib.hid (HBk.out j (Nat.le_refl _))
          have HTe := Lib.hid (show overL (innL (s.data.toList, m) (ofS f' g' j) Lo) = true → innL (s.data.toList, m) (ofS f' g' j) Lo = timesR Ls (ofS f' g' j) [] from fun h => by have := HTk.out; rwa [timesR_cons, if_pos h] at this)
          have HTf := Lib.hid (show overL (innL (s.data.toList, m) (ofS f' g' j) Lo) = false → timesR (Ls.drop (k + 1)) (ofS f' g' j) (innL (s.data.toList, m) (ofS f' g' j) Lo) = timesR Ls (ofS f' g' j) [] from fun h => by have := HTk.out; rwa [timesR_cons, if_neg (by rw [h]; simp)] at this)
          clear HTk HBk HIk HZ HOn HPs HBx H0 HOb HZ0 HG0 Hsz
          obtain ⟨L3, hL3⟩ : ∃ L3, innL (s.data.toList, m) (ofS f' g' j) Lo = L3 := ⟨_, rfl⟩
          rw [hL3] at HBe HTe HTf HV
          clear hL3
          obtain ⟨a3, c3, rfl, l1, l2, hrd⟩ := HV.out.rd
          have C63 := Lib.hid (over_any a3 L3.length c3 (sx L3) (sy L3) wr (by have := HBe.out.len; omega) (fun i hi => by
            have hm : L3[i] ∈ L3 := List.getElem_mem hi
            have := HBe.out.key _ hm
            rw [← size_key]
            simp only [sx, List.getD_eq_getElem?_getD, List.getElem?_eq_getElem hi, Option.getD_some]
            simp
            omega) hrd)
          rw [ofS_sx] at C63
          clear l1 l2 hrd
          cases hov : overL L3 with
          | true =>
            rw [hov] at C63
            have HX := Lib.hid (HTe.out hov)
            clear HTe HTf
            go_wp2_with (go_at_call 63; refine C63.out.mono ?_; rintro e w1 ⟨rfl, g1⟩; have G1 := Lib.hid g1; clear g1)
            go_ret
            rw [← HX.out]
            exact ⟨⟨_, rfl, HV.out.gr G1.out⟩, fun x h => HBe.out.key x h⟩
          | false =>
            rw [hov] at C63
            have HX := Lib.hid (HTf.out hov)
            clear HTe HTf
            go_wp2_with (go_at_call 63; refine C63.out.mono ?_; rintro e w1 ⟨rfl, g1⟩; have G1 := Lib.hid g1; clear g1)
            exact ⟨⟨k + 1, L3, hlt, by go_num, Lib.hid (HV.out.gr G1.out), HBe, HX⟩, by simp [intOf]; omega⟩
    · obtain rfl : k = n := by omega
      have i1 : ¬ (k : Int) < (k : Int) := by omega
      have HF := Lib.hid (show Lo = timesR Ls (ofS f' g' n') [] by have := HT.out; rw [HE.out] at this; exact this)
      clear HT
      go_wp2
      go_ret
      rw [← HF.out]
      exact ⟨⟨_, rfl, HW.out⟩, fun a b h => HB.out.key (a, b) h⟩

end Go.Proofs.YtehdemcfeoiecaaDoor
