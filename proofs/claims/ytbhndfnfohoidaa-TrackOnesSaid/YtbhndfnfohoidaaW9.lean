/- Contracts of chapter 5: the iterator over all witnesses. -/
import Derived.Test.YtbhndfnfohoidaaW8
import Derived.Test.YtbhndfnfohoidaaRan
import Derived.Test.YtbhndfnfohoidaaQA
import Derived.Test.YtbhndfnfohoidaaRtl
namespace Go.Proofs.Ytbhndfnfohoidaa
open Go.RowKit Go.Firn Go.Shelf
attribute [local go_sem] Oper.semAt_some
theorem wide_fn (f : FuncId) : Fence.wide.fn f = True := rfl
attribute [local simp] wide_fn

theorem grown_drewN (w : World) (k : Nat) : w.grownBy (w.drewN k) none := ⟨rfl, rfl, rfl, Nat.le_refl _, fun _ _ _ => rfl⟩

/-- What is handed over: a block, and the numbers in it. -/
def Wit := Nat × List Nat
def encW (x : Wit) : Array Value := #[.slice (some ⟨x.1, 0, none⟩) x.2.length x.2.length]
def HxW (x : Wit) (W : World) : Prop := ∀ i, i < x.2.length → W.cell? ⟨x.1, i, none⟩ = some (.int .i64 (nf x.2 i))

/-- .. and they are a witness. -/
def HxI (n : Nat) (X : Nat → Int) (bs : Nat) (x : Wit) (W : World) : Prop := HxW x W ∧ IsWit n X x.2 ∧ bs < x.1
theorem hx2 (w : World) (A B : Nat) : HxW (w.heap.size, [A, B]) (w.alloc (.cells #[.int .i64 A, .int .i64 B] 3)) := fun i hi => by
  have f := fun j v h => ((Gr.refl (w.alloc (.cells #[.int .i64 A, .int .i64 B] 3))).fresh' (b := w.heap.size) (j := j) (v := v) rfl h).1
  match i, hi with
  | 0, _ => exact f 0 _ rfl
  | 1, _ => exact f 1 _ rfl
theorem hx3 (w : World) (A B C : Nat) : HxW (w.heap.size, [A, B, C]) (w.alloc (.cells #[.int .i64 A, .int .i64 B, .int .i64 C] 3)) := fun i hi => by
  have f := fun j v h => ((Gr.refl (w.alloc (.cells #[.int .i64 A, .int .i64 B, .int .i64 C] 3))).fresh' (b := w.heap.size) (j := j) (v := v) rfl h).1
  match i, hi with
  | 0, _ => exact f 0 _ rfl
  | 1, _ => exact f 1 _ rfl
  | 2, _ => exact f 2 _ rfl

set_option maxHeartbeats 4000000 in
set_option maxRecDepth 100000 in
theorem all1_seq {K : Nat → Prop} (m : Nat) (hm : 1 ≤ m) (bs b o n c : Nat) (X Y : Nat → Int) (w : World) (hn : n ≤ 12) (h1 : 1 ≤ n) (hbs : w.cell? ⟨bs, 0, none⟩ = some (.slice (some ⟨b, o, none⟩) n c)) (hr : RdM w (some ⟨b, o, none⟩) n X Y) (hK1 : K bs) (hK2 : K b) :
    SeqM Fence.wide m Try.prog 103 #[.pointer (some ⟨bs, 0, none⟩)] encW (HxI n X bs) (Kc K) (fun xs => xs.map (·.2) = wits n X) w := fun l J W hW hJ hY h0 => by
  have HC : ∀ i, i < n → W.cell? ⟨b, o + i * 2, none⟩ = some (.int .i64 (X i)) := fun i hi => by
    obtain ⟨b', o', e, hc⟩ := hr.at hi
    simp at e
    obtain ⟨rfl, rfl⟩ := e
    have := (hc i hi).1
    rw [Below.cell hW (p := ⟨b, o + i * 2, none⟩) (World.block_lt_of_cell? w _ this)]
    exact this
  have HB : W.cell? ⟨bs, 0, none⟩ = some (.slice (some ⟨b, o, none⟩) n c) := by
    rw [Below.cell hW (p := ⟨bs, 0, none⟩) (World.block_lt_of_cell? w _ hbs)]; exact hbs
  have CC := Lib.hid HC
  have BB := Lib.hid HB
  have YY := Lib.hid hY
  have JJ := Lib.hid hJ
  have H0 := Lib.hid h0
  clear HC hr hbs hY hJ h0 hW
  refine callsIn_of_wp Try.func103 rfl trivial ?_ rfl
  simp only [Try.ntmps103, List.size_toArray, List.length_cons, List.length_nil, Nat.reduceAdd, Nat.reduceSub, Array.replicate_succ, Array.replicate_zero, List.push_toArray, List.append_toArray, List.nil_append, List.cons_append]
  gi_wp2
  clear HB
  gi_loopw [10] (fun sa wr => ∃ (A : Nat) (pre : List Wit), A ≤ n ∧ sa = .int .i64 A ∧ Hid (pre.map (·.2) = pr2 X n A) ∧ Hid (J pre wr) ∧ Hid (Kc K W wr)) (fun sa _ => n - (intOf sa).toNat)
  case atStart => exact ⟨0, [], Nat.zero_le _, rfl, rfl, H0, Lib.hid (fun _ _ _ h => h)⟩
  case round =>
    obtain ⟨A, pre, hA, rfl, hP, hJp, hKc⟩ := hrel
    by_cases hlt : A < n
    · have i1 : (A : Int) < n := by omega
      gi_wp2
      gi_loopw [4] (fun sb wy => ∃ (B : Nat) (pre2 : List Wit), B ≤ n ∧ A < B ∧ sb = .int .i64 (B : Nat) ∧ Hid (pre2.map (·.2) = pr2 X n A ++ row2 X A B) ∧ Hid (J pre2 wy) ∧ Hid (Kc K W wy)) (fun sb _ => n - (intOf sb).toNat)
      case atStart => exact ⟨A + 1, pre, by omega, by omega, by go_num, Lib.hid (by rw [hP.out, row2_low X A (A + 1) (Nat.le_refl _), List.append_nil]), hJp, hKc⟩
      case round =>
        obtain ⟨B, pre2, hB, hAB, rfl, hP2, hJ2, hK2'⟩ := hrel
        have cb := hK2'.out ⟨bs, 0, none⟩ _ hK1 BB.out
        by_cases hlt2 : B < n
        · have j1 : (B : Int) < n := by omega
          have ca := hK2'.out ⟨b, o + A * 2, none⟩ _ hK2 (CC.out A hlt)
          have cx := hK2'.out ⟨b, o + B * 2, none⟩ _ hK2 (CC.out B hlt2)
          have RS := Lib.hid (show row2 X A (B + 1) = row2 X A B ++ (if A < B ∧ X A = X B then [[A, B]] else []) from rfl)
          generalize X A = xa at *
          generalize X B = xb at *
          by_cases hx : xa = xb
          · have d1 : (xa == xb) = true := by simp [hx]
            have RS' := Lib.hid (show row2 X A (B + 1) = row2 X A B ++ [[A, B]] by rw [RS.out, if_pos ⟨hAB, hx⟩])
            have IW := Lib.hid (row2_wit (X := X) hlt (show B + 1 ≤ n by omega) [A, B] (by rw [RS'.out]; simp))
            clear hx
            gi_wp2
            refine wpIn_region_parts 12 rfl (by kernel_rfl) (by kernel_rfl) (fun _ _ _ _ _ h => h) ?_
            dsimp only [List.take_succ_cons, List.take_zero, List.drop_succ_cons, List.drop_zero]
            repeat (gi_big_quiet_step (fail))
            refine wpQuietIn_nil ?_
            rintro w' ⟨nq, rfl⟩
            have J3 := Lib.hid (JJ.out pre2 _ (wr.drewN nq) none hJ2.out (grown_drewN wr nq) (fun r e => by cases e))
            have K3 := Lib.hid (show Kc K W (wr.drewN nq) from fun p v hp e => hK2'.out p v hp e)
            clear cb ca cx
            generalize wr.drewN nq = w2 at J3 K3
            obtain ⟨fn, tmps, assign, body, hy, hR⟩ := YY.out pre2 (w2.heap.size, [A, B]) (w2.alloc (.cells #[.int .i64 A, .int .i64 B] 3)) (JJ.out pre2 _ _ none J3.out (World.grownBy_alloc w2 _ none) (fun r e => by cases e)) ⟨hx2 w2 A B, IW.out, World.block_lt_of_cell? w2 _ (K3.out ⟨bs, 0, none⟩ _ hK1 BB.out)⟩
            have hy' : (Instr.yield l #[.slice (some ⟨w2.heap.size, 0, none⟩) 2 2]).run Try.prog (w2.alloc (.cells #[.int .i64 A, .int .i64 B] 3)) = .ok (.round l fn tmps assign body) (w2.alloc (.cells #[.int .i64 A, .int .i64 B] 3)) := hy
            clear hy
            have K4 := Lib.hid (K3.out.trans (Kc.alloc w2 (.cells #[.int .i64 A, .int .i64 B] 3)))
            have HRR := Lib.hid hR
            clear hR
            gi_wp2
            refine HRR.out.mono ?_
            rintro e W' ⟨rfl, hJ', hk⟩
            have J5 := Lib.hid hJ'
            have K5 := Lib.hid (K4.out.trans hk)
            clear hJ' hk
            gi_wp2
            go_roundw
            case rel => exact ⟨B + 1, _, by omega, by omega, by go_num, Lib.hid (by rw [List.map_append, hP2.out, RS'.out, List.append_assoc]; rfl), J5, K5⟩
            case measure => simp [intOf]; omega
          · have d1 : (xa == xb) = false := by simp [hx]
            have RS' := Lib.hid (show row2 X A (B + 1) = row2 X A B by rw [RS.out, if_neg (fun h => hx h.2), List.append_nil])
            clear hx
            gi_wp2
            gi_big_quiet_th (fail)
            gi_wp2
            have J3 := Lib.hid (JJ.out pre2 _ (wr.drewN nq) none hJ2.out (grown_drewN wr nq) (fun r e => by cases e))
            go_roundw
            case rel => exact ⟨B + 1, pre2, by omega, by omega, by go_num, Lib.hid (by rw [RS'.out]; exact hP2.out), J3, Lib.hid (fun p v hp e => hK2'.out p v hp e)⟩
            case measure => simp [intOf]; omega
        · obtain rfl : B = n := by omega
          gi_wp2
          go_roundw
          case rel => exact ⟨A + 1, pre2, by omega, by go_num, hP2, hJ2, hK2'⟩
          case measure => simp [intOf]; omega
    · have eA : A = n := by omega
      have P2 := Lib.hid (show pre.map (·.2) = pr2 X n n by rw [hP.out, eA])
      have cb := hKc.out ⟨bs, 0, none⟩ _ hK1 BB.out
      have n1 : (n : Int) ≤ (A : Int) := by omega
      have b1 : decide (A < n) = false := by simp; omega
      clear eA hlt hA hP
      gi_wp2
      clear cb
      gi_loopw [43] (fun sa wr => ∃ (A : Nat) (pre : List Wit), A ≤ n ∧ sa = .int .i64 A ∧ Hid (pre.map (·.2) = pr2 X n n ++ cub X n A) ∧ Hid (J pre wr) ∧ Hid (Kc K W wr)) (fun sa _ => n - (intOf sa).toNat)
      case atStart => exact ⟨0, pre, Nat.zero_le _, rfl, Lib.hid (by rw [P2.out]; simp [cub]), hJp, hKc⟩
      case round =>
        clear P2 hJp hKc n1 b1
        obtain ⟨A, pre, hA, rfl, hP, hJp, hKc⟩ := hrel
        by_cases hlt : A < n
        · have i1 : (A : Int) < n := by omega
          have cb := hKc.out ⟨bs, 0, none⟩ _ hK1 BB.out
          gi_wp2
          clear cb
          gi_loopw [48] (fun sb wr => ∃ (B : Nat) (pre2 : List Wit), B ≤ n ∧ sb = .int .i64 (B : Nat) ∧ Hid (pre2.map (·.2) = pr2 X n n ++ cub X n A ++ pl3 X n A B) ∧ Hid (J pre2 wr) ∧ Hid (Kc K W wr)) (fun sb _ => n - (intOf sb).toNat)
          case atStart => exact ⟨0, pre, Nat.zero_le _, rfl, Lib.hid (by rw [hP.out]; simp [pl3]), hJp, hKc⟩
          case round =>
            clear hP hJp hKc
            obtain ⟨B, pre2, hB, rfl, hP2, hJ2, hK2'⟩ := hrel
            by_cases hlt2 : B < n
            · have j1 : (B : Int) < n := by omega
              have cb := hK2'.out ⟨bs, 0, none⟩ _ hK1 BB.out
              gi_wp2
              clear cb
              gi_loopw [53] (fun sc wr => ∃ (C : Nat) (pre3 : List Wit), C ≤ n ∧ sc = .int .i64 (C : Nat) ∧ Hid (pre3.map (·.2) = pr2 X n n ++ cub X n A ++ pl3 X n A B ++ row3 X A B C) ∧ Hid (J pre3 wr) ∧ Hid (Kc K W wr)) (fun sc _ => n - (intOf sc).toNat)
              case atStart => exact ⟨0, pre2, Nat.zero_le _, rfl, Lib.hid (by rw [hP2.out]; simp [row3]), hJ2, hK2'⟩
              case round =>
                clear hP2 hJ2 hK2'
                obtain ⟨C, pre3, hC, rfl, hP3, hJ3, hK3'⟩ := hrel
                by_cases hlt3 : C < n
                · have k1 : (C : Int) < n := by omega
                  have cb := hK3'.out ⟨bs, 0, none⟩ _ hK1 BB.out
                  have ca := hK3'.out ⟨b, o + A * 2, none⟩ _ hK2 (CC.out A hlt)
                  have cx := hK3'.out ⟨b, o + B * 2, none⟩ _ hK2 (CC.out B hlt2)
                  have cy := hK3'.out ⟨b, o + C * 2, none⟩ _ hK2 (CC.out C hlt3)
                  have RS := Lib.hid (show row3 X A B (C + 1) = row3 X A B C ++ (if X A < X B ∧ X B < X C then [[A, B, C]] else []) from rfl)
                  generalize X A = xa at *
                  generalize X B = xb at *
                  generalize X C = xc at *
                  by_cases hx1 : xa < xb
                  · have d1 : decide (xa < xb) = true := by simpa using hx1
                    by_cases hx2' : xb < xc
                    · have d2 : decide (xb < xc) = true := by simpa using hx2'
                      have RS' := Lib.hid (show row3 X A B (C + 1) = row3 X A B C ++ [[A, B, C]] by rw [RS.out, if_pos ⟨hx1, hx2'⟩])
                      have IW := Lib.hid (row3_wit (X := X) hlt hlt2 (show C + 1 ≤ n by omega) [A, B, C] (by rw [RS'.out]; simp))
                      clear hx1 hx2' RS
                      gi_wp2
                      refine wpIn_region_parts 25 rfl (by kernel_rfl) (by kernel_rfl) (fun _ _ _ _ _ h => h) ?_
                      dsimp only [List.take_succ_cons, List.take_zero, List.drop_succ_cons, List.drop_zero]
                      repeat (gi_big_quiet_step (fail))
                      refine wpQuietIn_nil ?_
                      rintro w' ⟨nq, rfl⟩
                      have J3 := Lib.hid (JJ.out pre3 _ (wr.drewN nq) none hJ3.out (grown_drewN wr nq) (fun r e => by cases e))
                      have K3 := Lib.hid (show Kc K W (wr.drewN nq) from fun p v hp e => hK3'.out p v hp e)
                      clear cb ca cx cy
                      generalize wr.drewN nq = w2 at J3 K3
                      obtain ⟨fn, tmps, assign, body, hy, hR⟩ := YY.out pre3 (w2.heap.size, [A, B, C]) (w2.alloc (.cells #[.int .i64 A, .int .i64 B, .int .i64 C] 3)) (JJ.out pre3 _ _ none J3.out (World.grownBy_alloc w2 _ none) (fun r e => by cases e)) ⟨hx3 w2 A B C, IW.out, World.block_lt_of_cell? w2 _ (K3.out ⟨bs, 0, none⟩ _ hK1 BB.out)⟩
                      have hy' : (Instr.yield l #[.slice (some ⟨w2.heap.size, 0, none⟩) 3 3]).run Try.prog (w2.alloc (.cells #[.int .i64 A, .int .i64 B, .int .i64 C] 3)) = .ok (.round l fn tmps assign body) (w2.alloc (.cells #[.int .i64 A, .int .i64 B, .int .i64 C] 3)) := hy
                      clear hy
                      have K4 := Lib.hid (K3.out.trans (Kc.alloc w2 (.cells #[.int .i64 A, .int .i64 B, .int .i64 C] 3)))
                      have HRR := Lib.hid hR
                      clear hR
                      gi_wp2
                      refine HRR.out.mono ?_
                      rintro e W' ⟨rfl, hJ', hk⟩
                      have J5 := Lib.hid hJ'
                      have K5 := Lib.hid (K4.out.trans hk)
                      clear hJ' hk
                      gi_wp2
                      go_roundw
                      case rel =>
                        have P6 := Lib.hid (show (pre3 ++ ([(w2.heap.size, [A, B, C])] : List Wit)).map (·.2) = pr2 X n n ++ cub X n A ++ pl3 X n A B ++ row3 X A B (C + 1) by rw [List.map_append, hP3.out, RS'.out, ← List.append_assoc]; rfl)
                        first
                          | exact ⟨C + 1, _, by omega, by go_num, P6, J5, K5⟩
                          | ((repeat apply Exists.intro); exact ⟨⟨C + 1, _, by omega, by go_num, P6, J5, K5⟩, rfl⟩)
                      case measure => simp [intOf]; omega
                    · have d2 : decide (xb < xc) = false := by simpa using hx2'
                      have RS' := Lib.hid (show row3 X A B (C + 1) = row3 X A B C by rw [RS.out, if_neg (fun h => hx2' h.2), List.append_nil])
                      clear hx1 hx2' RS
                      gi_wp2
                      gi_big_quiet_th (fail)
                      gi_wp2
                      have J3 := Lib.hid (JJ.out pre3 _ (wr.drewN nq) none hJ3.out (grown_drewN wr nq) (fun r e => by cases e))
                      go_roundw
                      case rel => exact ⟨C + 1, pre3, by omega, by go_num, Lib.hid (by rw [RS'.out]; exact hP3.out), J3, Lib.hid (fun p v hp e => hK3'.out p v hp e)⟩
                      case measure => simp [intOf]; omega
                  · have d1 : decide (xa < xb) = false := by simpa using hx1
                    have RS' := Lib.hid (show row3 X A B (C + 1) = row3 X A B C by rw [RS.out, if_neg (fun h => hx1 h.1), List.append_nil])
                    clear hx1 RS
                    gi_wp2
                    gi_big_quiet_th (fail)
                    gi_wp2
                    have J3 := Lib.hid (JJ.out pre3 _ (wr.drewN nq) none hJ3.out (grown_drewN wr nq) (fun r e => by cases e))
                    go_roundw
                    case rel => exact ⟨C + 1, pre3, by omega, by go_num, Lib.hid (by rw [RS'.out]; exact hP3.out), J3, Lib.hid (fun p v hp e => hK3'.out p v hp e)⟩
                    case measure => simp [intOf]; omega
                · have eC : C = n := by omega
                  have P3 := Lib.hid (show pre3.map (·.2) = pr2 X n n ++ cub X n A ++ pl3 X n A (B + 1) by rw [hP3.out, eC, pl3, ← List.append_assoc])
                  have n1 : (n : Int) ≤ (C : Int) := by omega
                  clear eC hlt3
                  gi_wp2
                  go_roundw
                  case rel => exact ⟨B + 1, pre3, by omega, by go_num, P3, hJ3, hK3'⟩
                  case measure => simp [intOf]; omega
            · have eB : B = n := by omega
              have P3 := Lib.hid (show pre2.map (·.2) = pr2 X n n ++ cub X n (A + 1) by rw [hP2.out, eB, cub, ← List.append_assoc])
              have n1 : (n : Int) ≤ (B : Int) := by omega
              clear eB hlt2
              gi_wp2
              go_roundw
              case rel => exact ⟨A + 1, pre2, by omega, by go_num, P3, hJ2, hK2'⟩
              case measure => simp [intOf]; omega
        · have eA : A = n := by omega
          have P3 := Lib.hid (show pre.map (·.2) = wits n X by rw [hP.out, eA]; rfl)
          have n1 : (n : Int) ≤ (A : Int) := by omega
          clear eA hlt
          gi_wp2
          go_end0
          exact ⟨⟨_, rfl⟩, pre, P3.out, hJp.out⟩

end Go.Proofs.Ytbhndfnfohoidaa
